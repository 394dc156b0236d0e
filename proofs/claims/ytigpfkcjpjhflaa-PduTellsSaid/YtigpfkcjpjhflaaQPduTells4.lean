/- What the law PduTells needs, and no more: merged out of texts of this session by a program of it (wip/tools/prune.py). -/
import Derived.Test.YtigpfkcjpjhflaaQPduTells3
set_option linter.unusedVariables false
set_option linter.unusedSimpArgs false
set_option maxRecDepth 10000
set_option maxHeartbeats 1000000
namespace Go.Proofs.Ytigpfkcjpjhflaa
open Go Go.Proofs.Ytigpfkcjpjhflaa.Pv
theorem w_burgageref3_num (b : List UInt8) (cl_b : Bool) (k : Int) (hb : b.length ≤ 140737488351232) (hk0 : k ≤ 9223372036854775807) :
    T Try.prog 89 [pS 1 cl_b enc8 b,pI k] 0 [] (Ret (pI (getV b k)) 0 []) := by
 refine t_fun tabOk (n := 14) (rs := [.tmp 4]) Try.func89 rfl rfl rfl rfl (Nat.le_of_ble_eq_true rfl) ?_
 intro c hnt hk
 refine w_seq ?_
 refine w_R ?_
 refine qa hnt rfl rfl ?_
 refine r_end ?_
 refine q_then ?_
 refine w_seq ?_
 refine w_R ?_
 refine qm hnt rfl rfl ?_
 refine qm hnt rfl rfl ?_
 refine qo hnt rfl (s_callF rfl rfl rfl (w_burgageref1_Get b cl_b k (by first|omega|assumption|(simp; omega)|decide|(simp; done)) (by first|omega|assumption|(simp; omega)|decide|(simp; done))) rfl ?_)
 refine qm hnt rfl rfl ?_
 refine qo hnt rfl (s_extract rfl rfl ?_)
 refine qo hnt rfl (s_extract rfl rfl ?_)
 refine qa hnt rfl rfl ?_
 refine qa hnt rfl rfl ?_
 refine r_end ?_
 refine q_then ?_
 refine w_seq ?_
 refine w_R ?_
 refine qm hnt rfl rfl ?_
 refine qa hnt rfl rfl ?_
 refine r_end ?_
 refine q_then ?_
 refine w_ret ?_
 exact fin_plain (ret_tmp rfl ret_nil) rfl rfl ⟨rfl,rfl,rfl⟩
theorem w_burgageref3_words (b : List UInt8) (cl_b : Bool) (k : Nat) (hb : b.length ≤ 140737488351232) (hk : k ≤ 100) :
    T Try.prog 90 [pS 1 cl_b enc8 b,pN k] 0 [] (Ret (pS 1 false enc16 (wordsAt b k)) 0 []) := by
 refine t_fun tabOk (n := 19) (rs := [.tmp 4]) Try.func90 rfl rfl rfl rfl (Nat.le_of_ble_eq_true rfl) ?_
 intro c hnt hk
 refine w_seq ?_
 refine w_R ?_
 refine qa hnt rfl rfl ?_
 refine r_end ?_
 refine q_then ?_
 refine w_seq ?_
 refine w_seq ?_
 refine w_R ?_
 refine qm hnt rfl rfl ?_
 refine qm hnt rfl rfl ?_
 refine qo hnt rfl (s_lenM (l := b) tab_34 rfl (hM_sl (f := enc8) rfl) ?_)
 refine qo hnt rfl (s_geq rfl rfl ?_)
 refine r_end ?_
 refine q_then ?_
 refine w_if rfl (fun c1 => ?_) (fun c1 => ?_)
 ·
  have c1_ := c1
  try simp only [sB] at c1
  refine w_seq ?_
  refine w_R ?_
  refine qa hnt rfl rfl ?_
  refine r_end ?_
  refine q_then ?_
  refine w_le (s := 4) (y := pS 1 false enc16 []) rfl (le_nilS 1 false) ?_
  refine w_le (s := 4) (y := pS 1 false enc16 (wordsAt b k)) rfl (le_of_eq (congrArg (fun z => pS 1 false enc16 z) (show [] = (wordsAt b k) by first|(unfold wordsAt; rw [if_pos (by omega)]; done)|(unfold wordsAt; rw [if_neg (by omega)]; done)))) ?_
  refine w_ret ?_
  refine q_then_ret ?_
  exact fin_plain (ret_tmp rfl ret_nil) rfl rfl ⟨rfl,rfl,rfl⟩
 ·
  have c1_ := c1
  try simp only [sB] at c1
  refine w_skip ?_
  refine q_then ?_
  refine w_seq ?_
  refine w_R ?_
  refine qm hnt rfl rfl ?_
  refine qm hnt rfl rfl ?_
  refine qo hnt rfl (s_cutM_lo (a := k) (f := enc8) (l := b) tab_34 rfl tab_5 ⟨rfl,by decide⟩ rfl (bound_some rfl (by omega)) (by omega) ?_)
  refine qo hnt rfl (s_callF rfl rfl rfl (w_burgageref1_Words (b.drop k) cl_b (by first|omega|assumption|(simp; omega)|decide|(simp; done))) rfl ?_)
  refine qm hnt rfl rfl ?_
  refine qo hnt rfl (s_extract rfl rfl ?_)
  refine qo hnt rfl (s_extract rfl rfl ?_)
  refine qa hnt rfl rfl ?_
  refine qa hnt rfl rfl ?_
  refine r_end ?_
  refine q_then ?_
  refine w_seq ?_
  refine w_R ?_
  refine qm hnt rfl rfl ?_
  refine qa hnt rfl rfl ?_
  refine r_end ?_
  refine q_then ?_
  refine w_le (s := 4) (y := pS 1 false enc16 (wordsAt b k)) rfl (le_of_eq (congrArg (fun z => pS 1 false enc16 z) (show (wordsV (b.drop k)) = (wordsAt b k) by first|(unfold wordsAt; rw [if_pos (by omega)]; done)|(unfold wordsAt; rw [if_neg (by omega)]; done)))) ?_
  refine w_ret ?_
  exact fin_plain (ret_tmp rfl ret_nil) rfl rfl ⟨rfl,rfl,rfl⟩
theorem w_pdu_num (b : List UInt8) (cl_b : Bool) (i : Nat) (hb : b.length ≤ 140737488351232) (hi : i ≤ 100) :
    T Try.prog 80 [pS 1 cl_b enc8 b,pN i] 0 [] (Ret (pI (getV b (1 + 2 * (i : Int)))) 0 []) := by
 refine t_fun tabOk (n := 16) (rs := [.tmp 4]) Try.func80 rfl rfl rfl rfl (Nat.le_of_ble_eq_true rfl) ?_
 intro c hnt hk
 refine w_seq ?_
 refine w_R ?_
 refine qa hnt rfl rfl ?_
 refine r_end ?_
 refine q_then ?_
 refine w_seq ?_
 refine w_R ?_
 refine qm hnt rfl rfl ?_
 refine qm hnt rfl rfl ?_
 refine qo hnt rfl (s_mulN (a := 2) (b := i) rfl rfl (by omega) (by omega) (by omega) ?_)
 refine qo hnt rfl (s_addN (a := 1) (b := 2 * i) rfl rfl (by omega) (by omega) (by omega) ?_)
 refine qo hnt rfl (s_callF rfl rfl rfl (w_octet_Get b cl_b ((1 + (2 * i) : Nat) : Int) (by first|omega|assumption|(simp; omega)|decide|(simp; done)) (by first|omega|assumption|(simp; omega)|decide|(simp; done))) rfl ?_)
 refine qm hnt rfl rfl ?_
 refine qo hnt rfl (s_extract rfl rfl ?_)
 refine qo hnt rfl (s_extract rfl rfl ?_)
 refine qa hnt rfl rfl ?_
 refine qa hnt rfl rfl ?_
 refine r_end ?_
 refine q_then ?_
 refine w_seq ?_
 refine w_R ?_
 refine qm hnt rfl rfl ?_
 refine qa hnt rfl rfl ?_
 refine r_end ?_
 refine q_then ?_
 refine w_le (s := 4) (y := pI (getV b (1 + 2 * (i : Int)))) rfl (le_of_eq (congrArg (fun z : Int => pI z) (show (getV b ((1 + (2 * i) : Nat) : Int)) = (getV b (1 + 2 * (i : Int))) by congr 1))) ?_
 refine w_ret ?_
 exact fin_plain (ret_tmp rfl ret_nil) rfl rfl ⟨rfl,rfl,rfl⟩
theorem w_pdu_words (b : List UInt8) (cl_b : Bool) (k : Nat) (hb : b.length ≤ 140737488351232) (hk : k ≤ 100) :
    T Try.prog 81 [pS 1 cl_b enc8 b,pN k] 0 [] (Ret (pS 1 false enc16 (wordsAtP b k)) 0 []) := by
 refine t_fun tabOk (n := 27) (rs := [.tmp 4]) Try.func81 rfl rfl rfl rfl (Nat.le_of_ble_eq_true rfl) ?_
 intro c hnt hk
 refine w_seq ?_
 refine w_R ?_
 refine qa hnt rfl rfl ?_
 refine r_end ?_
 refine q_then ?_
 refine w_seq ?_
 refine w_seq ?_
 refine w_R ?_
 refine qm hnt rfl rfl ?_
 refine qm hnt rfl rfl ?_
 refine qo hnt rfl (s_lenM (l := b) tab_34 rfl (hM_sl (f := enc8) rfl) ?_)
 refine qo hnt rfl (s_geq rfl rfl ?_)
 refine r_end ?_
 refine q_then ?_
 refine w_if rfl (fun c1 => ?_) (fun c1 => ?_)
 ·
  have c1_ := c1
  try simp only [sB] at c1
  refine w_seq ?_
  refine w_R ?_
  refine qa hnt rfl rfl ?_
  refine r_end ?_
  refine q_then ?_
  refine w_le (s := 4) (y := pS 1 false enc16 []) rfl (le_nilS 1 false) ?_
  refine w_le (s := 4) (y := pS 1 false enc16 (wordsAtP b k)) rfl (le_of_eq (congrArg (fun z => pS 1 false enc16 z) (show [] = (wordsAtP b k) by first|(unfold wordsAtP; rw [if_pos (by omega)]; done)|(unfold wordsAtP; rw [if_neg (by omega)]; done)))) ?_
  refine w_ret ?_
  refine q_then_ret ?_
  exact fin_plain (ret_tmp rfl ret_nil) rfl rfl ⟨rfl,rfl,rfl⟩
 ·
  have c1_ := c1
  try simp only [sB] at c1
  refine w_skip ?_
  refine q_then ?_
  refine w_seq ?_
  refine w_R ?_
  refine qm hnt rfl rfl ?_
  refine qm hnt rfl rfl ?_
  refine qm hnt rfl rfl ?_
  refine qo hnt rfl (s_lenM (l := b) tab_34 rfl (hM_sl (f := enc8) rfl) ?_)
  refine qm hnt rfl rfl ?_
  refine qo hnt rfl (s_lenM (l := b) tab_34 rfl (hM_sl (f := enc8) rfl) ?_)
  refine qm hnt rfl rfl ?_
  refine qo hnt rfl (s_subN (a := b.length) (b := k) rfl rfl (by omega) (by omega) (by omega) ?_)
  refine qo hnt rfl (s_remN (a := b.length - k) (b := 2) rfl rfl (by omega) (by omega) (by omega) ?_)
  refine qo hnt rfl (s_subN (a := b.length) (b := (b.length - k) % 2) rfl rfl (by omega) (by omega) (by omega) ?_)
  refine qo hnt rfl (s_cutM (a := k) (b := b.length - ((b.length - k) % 2)) (f := enc8) (l := b) tab_34 rfl tab_5 ⟨rfl,by decide⟩ rfl (bound_some rfl (by omega)) (bound_some rfl (by omega)) (by omega) ?_)
  refine qo hnt rfl (s_callF rfl rfl rfl (w_octet_Words ((b.take (b.length - ((b.length - k) % 2))).drop k) false (by first|omega|assumption|(simp; omega)|decide|(simp; done))) rfl ?_)
  refine qm hnt rfl rfl ?_
  refine qo hnt rfl (s_extract rfl rfl ?_)
  refine qo hnt rfl (s_extract rfl rfl ?_)
  refine qa hnt rfl rfl ?_
  refine qa hnt rfl rfl ?_
  refine r_end ?_
  refine q_then ?_
  refine w_seq ?_
  refine w_R ?_
  refine qm hnt rfl rfl ?_
  refine qa hnt rfl rfl ?_
  refine r_end ?_
  refine q_then ?_
  refine w_le (s := 4) (y := pS 1 false enc16 (wordsAtP b k)) rfl (le_of_eq (congrArg (fun z => pS 1 false enc16 z) (show (wordsV ((b.take (b.length - ((b.length - k) % 2))).drop k)) = (wordsAtP b k) by first|(unfold wordsAtP; rw [if_pos (by omega)]; done)|(unfold wordsAtP; rw [if_neg (by omega)]; done)))) ?_
  refine w_ret ?_
  exact fin_plain (ret_tmp rfl ret_nil) rfl rfl ⟨rfl,rfl,rfl⟩
theorem w_pdu_counted (b : List UInt8) (cl_b : Bool) (hb : b.length ≤ 1000000) :
    T Try.prog 39 [pS 1 cl_b enc8 b] 0 [] (Ret (PV.ref 0 0 none) 1 [(0,oB true 1 enc8 (rowX b))]) := by
 refine t_fun tabOk (n := 9) (rs := [.tmp 2]) Try.func39 rfl rfl rfl rfl (Nat.le_of_ble_eq_true rfl) ?_
 intro c hnt hk
 refine w_seq ?_
 refine w_R ?_
 refine qa hnt rfl rfl ?_
 refine r_end ?_
 refine q_then ?_
 refine w_seq ?_
 refine w_R ?_
 refine qm hnt rfl rfl ?_
 refine qo hnt rfl (s_lenM (l := b) tab_34 rfl (hM_sl (f := enc8) rfl) ?_)
 refine qo hnt rfl (s_cv8N (a := b.length) tab_3 tab_5 rfl rfl rfl (by omega) ?_)
 refine qo hnt rfl (s_mkM (f := enc8) [UInt8.ofNat b.length] tab_34 rfl tab_5 ⟨rfl,by decide⟩ (by decide) rfl rfl rfl rfl ?_)
 refine qm hnt rfl rfl ?_
 refine qo hnt rfl (s_appR0 (f := enc8) (l := [UInt8.ofNat b.length]) (xs := b) tab_34 rfl tab_5 ⟨rfl,by decide,by decide⟩ (srcM tab_34 rfl (hM_sl (f := enc8) rfl)) rfl rfl (by first|omega|(simp; omega)) ?_)
 refine qa hnt rfl rfl ?_
 refine r_set [(2,PV.ref 1 0 none)] [(1,oB true 1 enc8 ([UInt8.ofNat b.length] ++ b))] 2 ⟨rfl,trivial⟩ rfl rfl ?_
 refine r_end ?_
 refine q_then ?_
 refine w_H (H' := [(1,oB true 1 enc8 (rowX b))]) (congrArg (fun z => ([(1,oB true 1 enc8 z)] : Heap)) (show [UInt8.ofNat b.length] ++ b = rowX b by simp [rowX])) ?_
 refine w_ret ?_
 exact fin_names (nx1 := 1) (H1 := [(0,oB true 1 enc8 (rowX b))]) [(0,1)] (ret_tmp rfl ret_nil) rfl (by decide) ⟨⟨_,_,rfl,rfl,rfl,rfl⟩,trivial⟩ (by decide) rfl ⟨rfl,rfl,rfl⟩
theorem w_burgageref3_guess (b : List UInt8) (cl_b : Bool) (G : TRequest) (hG : G = guessR b) (hb : b.length ≤ 140737488351232) (h1 : 1 ≤ b.length) :
    T Try.prog 79 [pS 1 cl_b enc8 b] 0 [] (Ret (PV.f (eRequest G)) 0 []) := by
 refine t_fun tabOk (n := 83) (rs := [.cell 2 27]) Try.func79 rfl rfl rfl rfl (Nat.le_of_ble_eq_true rfl) ?_
 intro c hnt hk
 refine w_seq ?_
 refine w_R ?_
 refine qo hnt rfl (s_alloc tab_27 ?_)
 refine r_set [(0,pS 1 cl_b enc8 b),(2,PV.ptr 0 0)] [(0,.obj [pI 0,pI 0,pI 0,pI 0,pI 0,pNil,pNil,p16 0,p16 0])] 1 ⟨rfl,rfl,trivial⟩ rfl rfl ?_
 refine r_end ?_
 refine q_then ?_
 refine w_seq ?_
 refine w_R ?_
 refine qm hnt rfl rfl ?_
 obtain ⟨e1,he1⟩ := get_of_lt b (i := 0) (by omega)
 refine qo hnt rfl (s_iaM (q := 0) (b := e1) (f := enc8) tab_34 rfl tab_5 rfl rfl (by omega) rfl he1 ?_)
 refine qo hnt rfl (s_load_ro1 tab_5 rfl rfl rfl rfl ?_)
 refine qo hnt rfl (s_cvN (a := UInt8.toNat e1) tab_5 tab_3 rfl rfl rfl (by omega) (by have := lt8 e1; omega) ?_)
 refine qo hnt rfl (s_build tab_27 rfl rfl (b_cons rfl tab_3 rfl rfl rfl (Nat.le_of_ble_eq_true rfl) (b_nil ?_)))
 refine qo hnt rfl (s_alloc tab_27 ?_)
 refine qo hnt rfl (s_store_ptr tab_27 rfl rfl rfl rfl rfl (Nat.le_of_ble_eq_true rfl) ?_)
 refine r_set [(0,pS 1 cl_b enc8 b),(2,PV.ptr 0 0),(3,PV.ptr 1 0)] [(1,.obj [pN (UInt8.toNat e1),pI 0,pI 0,pI 0,pI 0,pNil,pNil,p16 0,p16 0]),(0,.obj [pI 0,pI 0,pI 0,pI 0,pI 0,pNil,pNil,p16 0,p16 0])] 2 ⟨rfl,rfl,rfl,trivial⟩ rfl rfl ?_
 refine r_end ?_
 refine q_then ?_
 refine w_seq ?_
 have hb0 : b.getD 0 0 = e1 := by rw [List.getD_eq_getElem?_getD,he1]; rfl
 have ia := in_any ((UInt8.toNat e1 : Nat) : Int)
 refine w_R ?_
 refine qo hnt rfl (s_fa_ptr tab_27 rfl rfl tab_3 (by decide) rfl ?_)
 refine qo hnt rfl (s_load_ptr1 tab_3 rfl rfl rfl rfl rfl ?_)
 refine qo hnt rfl (s_callF rfl rfl rfl (w_burgageref3_uses ((UInt8.toNat e1 : Nat) : Int)) rfl ?_)
 refine qa hnt rfl rfl ?_
 refine r_end ?_
 refine q_then ?_
 refine join1 (fun (va : Int) => va = gAt ((e1.toNat : Nat) : Int) b) (fun (va : Int) => [(0,pS 1 cl_b enc8 b),(2,PV.ptr 1 0),(3,PV.ptr 0 0),(4,pT (usesS ((UInt8.toNat e1 : Nat) : Int)))]) 2 (fun (va : Int) => [(0,.obj [pN (UInt8.toNat e1),pI va,pI 0,pI 0,pI 0,pNil,pNil,p16 0,p16 0]),(1,.obj [pI 0,pI 0,pI 0,pI 0,pI 0,pNil,pNil,p16 0,p16 0])]) ?_ ?_
 ·
  refine w_seq ?_
  refine w_R ?_
  refine qm hnt rfl rfl ?_
  refine qo hnt rfl (s_callF rfl rfl rfl (w_burgageref3_in (usesS ((UInt8.toNat e1 : Nat) : Int)) 97 (by have := usesS_len ((e1.toNat : Nat) : Int); omega)) rfl ?_)
  refine r_end ?_
  refine q_then ?_
  refine w_if rfl (fun c1 => ?_) (fun c1 => ?_)
  ·
   have c1_ := c1
   try simp only [sB] at c1
   refine w_R ?_
   refine qm hnt rfl rfl ?_
   refine qo hnt rfl (s_callF rfl rfl rfl (w_burgageref3_num b cl_b 1 (by first|omega|assumption|(simp; omega)|decide|(simp; done)) (by first|omega|assumption|(simp; omega)|decide|(simp; done))) rfl ?_)
   refine qo hnt rfl (s_fa_ptr tab_27 rfl rfl tab_3 (by decide) rfl ?_)
   refine qo hnt rfl (s_store_ptr tab_3 rfl rfl rfl rfl rfl (Nat.le_of_ble_eq_true rfl) ?_)
   refine r_end ?_
   refine q_then ?_
   refine ⟨(getV b 1), ?_,⟨[(0,1),(1,0)],by rw [hk]; decide,⟨⟨_,rfl,rfl,rfl⟩,⟨_,rfl,rfl,rfl⟩,⟨_,rfl,rfl,rfl⟩,⟨_,rfl,rfl,rfl⟩,trivial⟩,⟨⟨_,_,rfl,rfl,rfl,rfl⟩,⟨_,_,rfl,rfl,rfl,rfl⟩,trivial⟩,by rw [hk]; decide⟩⟩
   first|(unfold gAt; rw [if_pos (by have := ia.1; rw [c1] at this; exact of_decide_eq_true this.symm)]; done)|(unfold gAt; rw [if_neg (by have := ia.1; rw [c1] at this; exact of_decide_eq_false this.symm)]; done)
  ·
   have c1_ := c1
   try simp only [sB] at c1
   refine w_skip ?_
   refine q_then ?_
   refine ⟨(0), ?_,⟨[(0,1),(1,0)],by rw [hk]; decide,⟨⟨_,rfl,rfl,rfl⟩,⟨_,rfl,rfl,rfl⟩,⟨_,rfl,rfl,rfl⟩,⟨_,rfl,rfl,rfl⟩,trivial⟩,⟨⟨_,_,rfl,rfl,rfl,rfl⟩,⟨_,_,rfl,rfl,rfl,rfl⟩,trivial⟩,by rw [hk]; decide⟩⟩
   first|(unfold gAt; rw [if_pos (by have := ia.1; rw [c1] at this; exact of_decide_eq_true this.symm)]; done)|(unfold gAt; rw [if_neg (by have := ia.1; rw [c1] at this; exact of_decide_eq_false this.symm)]; done)
 ·
  intro va hva
  refine join2 (fun (vb : Int) (vc : Int) => vb = gAt ((e1.toNat : Nat) : Int) b ∧ vc = gCount ((e1.toNat : Nat) : Int) b) (fun (vb : Int) (vc : Int) => [(0,pS 1 cl_b enc8 b),(2,PV.ptr 1 0),(3,PV.ptr 0 0)]) 2 (fun (vb : Int) (vc : Int) => [(0,.obj [pN (UInt8.toNat e1),pI vb,pI vc,pI 0,pI 0,pNil,pNil,p16 0,p16 0]),(1,.obj [pI 0,pI 0,pI 0,pI 0,pI 0,pNil,pNil,p16 0,p16 0])]) ?_ ?_
  ·
   refine w_seq ?_
   refine w_R ?_
   refine qm hnt rfl rfl ?_
   refine qo hnt rfl (s_callF rfl rfl rfl (w_burgageref3_in (usesS ((UInt8.toNat e1 : Nat) : Int)) 99 (by have := usesS_len ((e1.toNat : Nat) : Int); omega)) rfl ?_)
   refine r_end ?_
   refine q_then ?_
   refine w_if rfl (fun c2 => ?_) (fun c2 => ?_)
   ·
    have c2_ := c2
    try simp only [sB] at c2
    refine w_R ?_
    refine qm hnt rfl rfl ?_
    refine qo hnt rfl (s_callF rfl rfl rfl (w_burgageref3_num b cl_b 3 (by first|omega|assumption|(simp; omega)|decide|(simp; done)) (by first|omega|assumption|(simp; omega)|decide|(simp; done))) rfl ?_)
    refine qo hnt rfl (s_fa_ptr tab_27 rfl rfl tab_3 (by decide) rfl ?_)
    refine qo hnt rfl (s_store_ptr tab_3 rfl rfl rfl rfl rfl (Nat.le_of_ble_eq_true rfl) ?_)
    refine r_end ?_
    refine q_then ?_
    refine ⟨(va),(getV b 3), ?_,⟨[(0,0),(1,1)],by rw [hk]; decide,⟨⟨_,rfl,rfl,rfl⟩,⟨_,rfl,rfl,rfl⟩,⟨_,rfl,rfl,rfl⟩,trivial⟩,⟨⟨_,_,rfl,rfl,rfl,rfl⟩,⟨_,_,rfl,rfl,rfl,rfl⟩,trivial⟩,by rw [hk]; decide⟩⟩
    first|exact ⟨hva,by unfold gCount; rw [if_pos (by have := ia.2; rw [c2] at this; exact of_decide_eq_true this.symm)]⟩|exact ⟨hva,by unfold gCount; rw [if_neg (by have := ia.2; rw [c2] at this; exact of_decide_eq_false this.symm)]⟩
   ·
    have c2_ := c2
    try simp only [sB] at c2
    refine w_skip ?_
    refine q_then ?_
    refine ⟨(va),(0), ?_,⟨[(0,0),(1,1)],by rw [hk]; decide,⟨⟨_,rfl,rfl,rfl⟩,⟨_,rfl,rfl,rfl⟩,⟨_,rfl,rfl,rfl⟩,trivial⟩,⟨⟨_,_,rfl,rfl,rfl,rfl⟩,⟨_,_,rfl,rfl,rfl,rfl⟩,trivial⟩,by rw [hk]; decide⟩⟩
    first|exact ⟨hva,by unfold gCount; rw [if_pos (by have := ia.2; rw [c2] at this; exact of_decide_eq_true this.symm)]⟩|exact ⟨hva,by unfold gCount; rw [if_neg (by have := ia.2; rw [c2] at this; exact of_decide_eq_false this.symm)]⟩
  ·
   intro vb vc hvc
   refine w_seq ?_
   refine w_seq ?_
   refine w_R ?_
   refine qo hnt rfl (s_fa_ptr tab_27 rfl rfl tab_3 (by decide) rfl ?_)
   refine qo hnt rfl (s_load_ptr1 tab_3 rfl rfl rfl rfl rfl ?_)
   refine r_end ?_
   refine q_then ?_
   refine w_block ?_
   refine w_seq ?_
   obtain ⟨hvb,hvd⟩ := hvc
   have hcl := gCount_le ((e1.toNat : Nat) : Int) b
   refine w_R ?_
   refine qo hnt rfl (s_eql rfl rfl ?_)
   refine qa hnt rfl rfl ?_
   refine r_end ?_
   refine q_then ?_
   refine w_if rfl (fun c3 => ?_) (fun c3 => ?_)
   ·
    have c3_ := c3
    try simp only [sB] at c3
    rw [guessR_5 hb0 (by omega)] at hG
    refine w_R ?_
    refine qm hnt rfl rfl ?_
    refine qo hnt rfl (s_callF rfl rfl rfl (w_burgageref3_num b cl_b 3 (by first|omega|assumption|(simp; omega)|decide|(simp; done)) (by first|omega|assumption|(simp; omega)|decide|(simp; done))) rfl ?_)
    refine qo hnt rfl (s_neq rfl rfl ?_)
    refine qo hnt rfl (s_mkM (f := encBo) [!decide (getV b 3 = 0)] tab_23 rfl tab_4 ⟨rfl,by decide⟩ (by decide) rfl rfl rfl rfl ?_)
    refine qo hnt rfl (s_fa_ptr tab_27 rfl rfl tab_23 (by decide) rfl ?_)
    refine qo hnt rfl (s_store_ptr tab_23 rfl rfl rfl rfl rfl (Nat.le_of_ble_eq_true rfl) ?_)
    refine r_set [(2,PV.ptr 1 0),(3,PV.ptr 0 0)] [(0,.obj [pN (UInt8.toNat e1),pI vb,pI vc,pI 0,pI 0,PV.ref 2 0 none,pNil,p16 0,p16 0]),(2,oB true 1 encBo [!decide (getV b 3 = 0)]),(1,.obj [pI 0,pI 0,pI 0,pI 0,pI 0,pNil,pNil,p16 0,p16 0])] 3 ⟨rfl,rfl,trivial⟩ rfl rfl ?_
    refine r_end ?_
    refine q_block ?_
    refine q_then ?_
    refine w_seq ?_
    refine w_R ?_
    refine qo hnt rfl (s_load_ptr tab_27 rfl rfl rfl (Nat.le_of_ble_eq_true rfl) ?_)
    refine qo hnt rfl (s_store_ptr tab_27 rfl rfl rfl rfl rfl (Nat.le_of_ble_eq_true rfl) ?_)
    refine r_set [(2,PV.ptr 1 0)] [(1,.obj [pN (UInt8.toNat e1),pI vb,pI vc,pI 0,pI 0,PV.ref 2 0 none,pNil,p16 0,p16 0]),(0,.obj [pN (UInt8.toNat e1),pI vb,pI vc,pI 0,pI 0,PV.ref 2 0 none,pNil,p16 0,p16 0]),(2,oB true 1 encBo [!decide (getV b 3 = 0)])] 3 ⟨rfl,trivial⟩ rfl rfl ?_
    refine r_end ?_
    refine q_then ?_
    refine w_frzC (n := 1) (j := 5) rfl rfl rfl rfl ?_
    refine w_leO (n := 1) (ds := [pN (UInt8.toNat e1),pI vb,pI vc,pI 0,pI 0,pS 1 false encBo G.bits,pNil,p16 0,p16 0]) rfl ⟨le_refl _,le_refl _,le_refl _,le_refl _,le_refl _,le_of_eq (congrArg (fun z => pS 1 false encBo z) (show [!decide (getV b 3 = 0)] = G.bits by first|(rw [hG]; done)|(rw [hG]; rfl)|(rw [hG]; exact hvb)|(rw [hG]; exact hvd)|(rw [hG,hvd]; done)|(rw [hG,← hvd]; done)|(rw [hG]; simp [*]; done))),le_refl _,le_refl _,le_refl _,trivial⟩ ?_
    refine w_leO (n := 1) (ds := [pI G.fn,pI G.at_,pI G.count,pI G.wAt,pI G.sub,pS 1 false encBo G.bits,pS 1 false enc16 G.vals,p16 G.and_,p16 G.or_]) rfl ⟨le_of_eq (congrArg (fun z : Int => pI z) (show ((UInt8.toNat e1 : Nat) : Int) = G.fn by first|(rw [hG]; done)|(rw [hG]; rfl)|(rw [hG]; exact hvb)|(rw [hG]; exact hvd)|(rw [hG,hvd]; done)|(rw [hG,← hvd]; done)|(rw [hG]; simp [*]; done))),le_of_eq (congrArg (fun z : Int => pI z) (show vb = G.at_ by first|(rw [hG]; done)|(rw [hG]; rfl)|(rw [hG]; exact hvb)|(rw [hG]; exact hvd)|(rw [hG,hvd]; done)|(rw [hG,← hvd]; done)|(rw [hG]; simp [*]; done))),le_of_eq (congrArg (fun z : Int => pI z) (show vc = G.count by first|(rw [hG]; done)|(rw [hG]; rfl)|(rw [hG]; exact hvb)|(rw [hG]; exact hvd)|(rw [hG,hvd]; done)|(rw [hG,← hvd]; done)|(rw [hG]; simp [*]; done))),le_of_eq (congrArg (fun z : Int => pI z) (show 0 = G.wAt by first|(rw [hG]; done)|(rw [hG]; rfl)|(rw [hG]; exact hvb)|(rw [hG]; exact hvd)|(rw [hG,hvd]; done)|(rw [hG,← hvd]; done)|(rw [hG]; simp [*]; done))),le_of_eq (congrArg (fun z : Int => pI z) (show 0 = G.sub by first|(rw [hG]; done)|(rw [hG]; rfl)|(rw [hG]; exact hvb)|(rw [hG]; exact hvd)|(rw [hG,hvd]; done)|(rw [hG,← hvd]; done)|(rw [hG]; simp [*]; done))),le_refl _,le_tr (le_nilS 1 false) (le_of_eq (congrArg (fun z => pS 1 false enc16 z) (show [] = G.vals by first|(rw [hG]; done)|(rw [hG]; rfl)|(rw [hG]; exact hvb)|(rw [hG]; exact hvd)|(rw [hG,hvd]; done)|(rw [hG,← hvd]; done)|(rw [hG]; simp [*]; done)))),le_of_eq (congrArg (fun z : UInt16 => p16 z) (show 0 = G.and_ by first|(rw [hG]; done)|(rw [hG]; rfl)|(rw [hG]; exact hvb)|(rw [hG]; exact hvd)|(rw [hG,hvd]; done)|(rw [hG,← hvd]; done)|(rw [hG]; simp [*]; done))),le_of_eq (congrArg (fun z : UInt16 => p16 z) (show 0 = G.or_ by first|(rw [hG]; done)|(rw [hG]; rfl)|(rw [hG]; exact hvb)|(rw [hG]; exact hvd)|(rw [hG,hvd]; done)|(rw [hG,← hvd]; done)|(rw [hG]; simp [*]; done))),trivial⟩ ?_
    refine w_ret ?_
    exact fin_plain (ret_cell tab_27 (by decide) rfl rfl (Nat.le_of_ble_eq_true rfl) rfl ret_nil) rfl rfl ⟨rfl,rfl,rfl⟩
   ·
    have c3_ := c3
    try simp only [sB] at c3
    refine w_seq ?_
    refine w_R ?_
    refine qo hnt rfl (s_eql rfl rfl ?_)
    refine qa hnt rfl rfl ?_
    refine r_end ?_
    refine q_then ?_
    refine w_if rfl (fun c4 => ?_) (fun c4 => ?_)
    ·
     have c4_ := c4
     try simp only [sB] at c4
     rw [guessR_6 hb0 (by omega)] at hG
     refine w_R ?_
     refine qm hnt rfl rfl ?_
     refine qo hnt rfl (s_callF rfl rfl rfl (w_burgageref3_words b cl_b 3 (by first|omega|assumption|(simp; omega)|decide|(simp; done)) (by first|omega|assumption|(simp; omega)|decide|(simp; done))) rfl ?_)
     refine qo hnt rfl (s_fa_ptr tab_27 rfl rfl tab_24 (by decide) rfl ?_)
     refine qo hnt rfl (s_store_ptr tab_24 rfl rfl rfl rfl rfl (Nat.le_of_ble_eq_true rfl) ?_)
     refine r_set [(2,PV.ptr 1 0),(3,PV.ptr 0 0)] [(0,.obj [pN (UInt8.toNat e1),pI vb,pI vc,pI 0,pI 0,pNil,pS 1 false enc16 (wordsAt b 3),p16 0,p16 0]),(1,.obj [pI 0,pI 0,pI 0,pI 0,pI 0,pNil,pNil,p16 0,p16 0])] 2 ⟨rfl,rfl,trivial⟩ rfl rfl ?_
     refine r_end ?_
     refine q_block ?_
     refine q_then ?_
     refine w_seq ?_
     refine w_R ?_
     refine qo hnt rfl (s_load_ptr tab_27 rfl rfl rfl (Nat.le_of_ble_eq_true rfl) ?_)
     refine qo hnt rfl (s_store_ptr tab_27 rfl rfl rfl rfl rfl (Nat.le_of_ble_eq_true rfl) ?_)
     refine r_set [(2,PV.ptr 1 0)] [(1,.obj [pN (UInt8.toNat e1),pI vb,pI vc,pI 0,pI 0,pNil,pS 1 false enc16 (wordsAt b 3),p16 0,p16 0]),(0,.obj [pN (UInt8.toNat e1),pI vb,pI vc,pI 0,pI 0,pNil,pS 1 false enc16 (wordsAt b 3),p16 0,p16 0])] 2 ⟨rfl,trivial⟩ rfl rfl ?_
     refine r_end ?_
     refine q_then ?_
     refine w_leO (n := 1) (ds := [pI G.fn,pI G.at_,pI G.count,pI G.wAt,pI G.sub,pS 1 false encBo G.bits,pS 1 false enc16 G.vals,p16 G.and_,p16 G.or_]) rfl ⟨le_of_eq (congrArg (fun z : Int => pI z) (show ((UInt8.toNat e1 : Nat) : Int) = G.fn by first|(rw [hG]; done)|(rw [hG]; rfl)|(rw [hG]; exact hvb)|(rw [hG]; exact hvd)|(rw [hG,hvd]; done)|(rw [hG,← hvd]; done)|(rw [hG]; simp [*]; done))),le_of_eq (congrArg (fun z : Int => pI z) (show vb = G.at_ by first|(rw [hG]; done)|(rw [hG]; rfl)|(rw [hG]; exact hvb)|(rw [hG]; exact hvd)|(rw [hG,hvd]; done)|(rw [hG,← hvd]; done)|(rw [hG]; simp [*]; done))),le_of_eq (congrArg (fun z : Int => pI z) (show vc = G.count by first|(rw [hG]; done)|(rw [hG]; rfl)|(rw [hG]; exact hvb)|(rw [hG]; exact hvd)|(rw [hG,hvd]; done)|(rw [hG,← hvd]; done)|(rw [hG]; simp [*]; done))),le_of_eq (congrArg (fun z : Int => pI z) (show 0 = G.wAt by first|(rw [hG]; done)|(rw [hG]; rfl)|(rw [hG]; exact hvb)|(rw [hG]; exact hvd)|(rw [hG,hvd]; done)|(rw [hG,← hvd]; done)|(rw [hG]; simp [*]; done))),le_of_eq (congrArg (fun z : Int => pI z) (show 0 = G.sub by first|(rw [hG]; done)|(rw [hG]; rfl)|(rw [hG]; exact hvb)|(rw [hG]; exact hvd)|(rw [hG,hvd]; done)|(rw [hG,← hvd]; done)|(rw [hG]; simp [*]; done))),le_tr (le_nilS 1 false) (le_of_eq (congrArg (fun z => pS 1 false encBo z) (show [] = G.bits by first|(rw [hG]; done)|(rw [hG]; rfl)|(rw [hG]; exact hvb)|(rw [hG]; exact hvd)|(rw [hG,hvd]; done)|(rw [hG,← hvd]; done)|(rw [hG]; simp [*]; done)))),le_of_eq (congrArg (fun z => pS 1 false enc16 z) (show (wordsAt b 3) = G.vals by first|(rw [hG]; done)|(rw [hG]; rfl)|(rw [hG]; exact hvb)|(rw [hG]; exact hvd)|(rw [hG,hvd]; done)|(rw [hG,← hvd]; done)|(rw [hG]; simp [*]; done))),le_of_eq (congrArg (fun z : UInt16 => p16 z) (show 0 = G.and_ by first|(rw [hG]; done)|(rw [hG]; rfl)|(rw [hG]; exact hvb)|(rw [hG]; exact hvd)|(rw [hG,hvd]; done)|(rw [hG,← hvd]; done)|(rw [hG]; simp [*]; done))),le_of_eq (congrArg (fun z : UInt16 => p16 z) (show 0 = G.or_ by first|(rw [hG]; done)|(rw [hG]; rfl)|(rw [hG]; exact hvb)|(rw [hG]; exact hvd)|(rw [hG,hvd]; done)|(rw [hG,← hvd]; done)|(rw [hG]; simp [*]; done))),trivial⟩ ?_
     refine w_ret ?_
     exact fin_plain (ret_cell tab_27 (by decide) rfl rfl (Nat.le_of_ble_eq_true rfl) rfl ret_nil) rfl rfl ⟨rfl,rfl,rfl⟩
    ·
     have c4_ := c4
     try simp only [sB] at c4
     refine w_seq ?_
     refine w_R ?_
     refine qo hnt rfl (s_eql rfl rfl ?_)
     refine qa hnt rfl rfl ?_
     refine r_end ?_
     refine q_then ?_
     refine w_if rfl (fun c5 => ?_) (fun c5 => ?_)
     ·
      have c5_ := c5
      try simp only [sB] at c5
      rw [guessR_8 hb0 (by omega)] at hG
      refine w_R ?_
      refine qm hnt rfl rfl ?_
      refine qo hnt rfl (s_callF rfl rfl rfl (w_burgageref3_num b cl_b 1 (by first|omega|assumption|(simp; omega)|decide|(simp; done)) (by first|omega|assumption|(simp; omega)|decide|(simp; done))) rfl ?_)
      refine qm hnt rfl rfl ?_
      refine qo hnt rfl (s_callF rfl rfl rfl (w_burgageref3_words b cl_b 3 (by first|omega|assumption|(simp; omega)|decide|(simp; done)) (by first|omega|assumption|(simp; omega)|decide|(simp; done))) rfl ?_)
      refine qo hnt rfl (s_fa_ptr tab_27 rfl rfl tab_3 (by decide) rfl ?_)
      refine qo hnt rfl (s_store_ptr tab_3 rfl rfl rfl rfl rfl (Nat.le_of_ble_eq_true rfl) ?_)
      refine qo hnt rfl (s_fa_ptr tab_27 rfl rfl tab_24 (by decide) rfl ?_)
      refine qo hnt rfl (s_store_ptr tab_24 rfl rfl rfl rfl rfl (Nat.le_of_ble_eq_true rfl) ?_)
      refine r_set [(2,PV.ptr 1 0),(3,PV.ptr 0 0)] [(0,.obj [pN (UInt8.toNat e1),pI vb,pI vc,pI 0,pI (getV b 1),pNil,pS 1 false enc16 (wordsAt b 3),p16 0,p16 0]),(1,.obj [pI 0,pI 0,pI 0,pI 0,pI 0,pNil,pNil,p16 0,p16 0])] 2 ⟨rfl,rfl,trivial⟩ rfl rfl ?_
      refine r_end ?_
      refine q_block ?_
      refine q_then ?_
      refine w_seq ?_
      refine w_R ?_
      refine qo hnt rfl (s_load_ptr tab_27 rfl rfl rfl (Nat.le_of_ble_eq_true rfl) ?_)
      refine qo hnt rfl (s_store_ptr tab_27 rfl rfl rfl rfl rfl (Nat.le_of_ble_eq_true rfl) ?_)
      refine r_set [(2,PV.ptr 1 0)] [(1,.obj [pN (UInt8.toNat e1),pI vb,pI vc,pI 0,pI (getV b 1),pNil,pS 1 false enc16 (wordsAt b 3),p16 0,p16 0]),(0,.obj [pN (UInt8.toNat e1),pI vb,pI vc,pI 0,pI (getV b 1),pNil,pS 1 false enc16 (wordsAt b 3),p16 0,p16 0])] 2 ⟨rfl,trivial⟩ rfl rfl ?_
      refine r_end ?_
      refine q_then ?_
      refine w_leO (n := 1) (ds := [pI G.fn,pI G.at_,pI G.count,pI G.wAt,pI G.sub,pS 1 false encBo G.bits,pS 1 false enc16 G.vals,p16 G.and_,p16 G.or_]) rfl ⟨le_of_eq (congrArg (fun z : Int => pI z) (show ((UInt8.toNat e1 : Nat) : Int) = G.fn by first|(rw [hG]; done)|(rw [hG]; rfl)|(rw [hG]; exact hvb)|(rw [hG]; exact hvd)|(rw [hG,hvd]; done)|(rw [hG,← hvd]; done)|(rw [hG]; simp [*]; done))),le_of_eq (congrArg (fun z : Int => pI z) (show vb = G.at_ by first|(rw [hG]; done)|(rw [hG]; rfl)|(rw [hG]; exact hvb)|(rw [hG]; exact hvd)|(rw [hG,hvd]; done)|(rw [hG,← hvd]; done)|(rw [hG]; simp [*]; done))),le_of_eq (congrArg (fun z : Int => pI z) (show vc = G.count by first|(rw [hG]; done)|(rw [hG]; rfl)|(rw [hG]; exact hvb)|(rw [hG]; exact hvd)|(rw [hG,hvd]; done)|(rw [hG,← hvd]; done)|(rw [hG]; simp [*]; done))),le_of_eq (congrArg (fun z : Int => pI z) (show 0 = G.wAt by first|(rw [hG]; done)|(rw [hG]; rfl)|(rw [hG]; exact hvb)|(rw [hG]; exact hvd)|(rw [hG,hvd]; done)|(rw [hG,← hvd]; done)|(rw [hG]; simp [*]; done))),le_of_eq (congrArg (fun z : Int => pI z) (show (getV b 1) = G.sub by first|(rw [hG]; done)|(rw [hG]; rfl)|(rw [hG]; exact hvb)|(rw [hG]; exact hvd)|(rw [hG,hvd]; done)|(rw [hG,← hvd]; done)|(rw [hG]; simp [*]; done))),le_tr (le_nilS 1 false) (le_of_eq (congrArg (fun z => pS 1 false encBo z) (show [] = G.bits by first|(rw [hG]; done)|(rw [hG]; rfl)|(rw [hG]; exact hvb)|(rw [hG]; exact hvd)|(rw [hG,hvd]; done)|(rw [hG,← hvd]; done)|(rw [hG]; simp [*]; done)))),le_of_eq (congrArg (fun z => pS 1 false enc16 z) (show (wordsAt b 3) = G.vals by first|(rw [hG]; done)|(rw [hG]; rfl)|(rw [hG]; exact hvb)|(rw [hG]; exact hvd)|(rw [hG,hvd]; done)|(rw [hG,← hvd]; done)|(rw [hG]; simp [*]; done))),le_of_eq (congrArg (fun z : UInt16 => p16 z) (show 0 = G.and_ by first|(rw [hG]; done)|(rw [hG]; rfl)|(rw [hG]; exact hvb)|(rw [hG]; exact hvd)|(rw [hG,hvd]; done)|(rw [hG,← hvd]; done)|(rw [hG]; simp [*]; done))),le_of_eq (congrArg (fun z : UInt16 => p16 z) (show 0 = G.or_ by first|(rw [hG]; done)|(rw [hG]; rfl)|(rw [hG]; exact hvb)|(rw [hG]; exact hvd)|(rw [hG,hvd]; done)|(rw [hG,← hvd]; done)|(rw [hG]; simp [*]; done))),trivial⟩ ?_
      refine w_ret ?_
      exact fin_plain (ret_cell tab_27 (by decide) rfl rfl (Nat.le_of_ble_eq_true rfl) rfl ret_nil) rfl rfl ⟨rfl,rfl,rfl⟩
     ·
      have c5_ := c5
      try simp only [sB] at c5
      refine w_seq ?_
      refine w_R ?_
      refine qo hnt rfl (s_eql rfl rfl ?_)
      refine qa hnt rfl rfl ?_
      refine r_end ?_
      refine q_then ?_
      refine w_if rfl (fun c6 => ?_) (fun c6 => ?_)
      ·
       have c6_ := c6
       try simp only [sB] at c6
       rw [guessR_15 hb0 (by omega)] at hG
       refine w_seq ?_
       refine w_R ?_
       refine qm hnt rfl rfl ?_
       refine qo hnt rfl (s_lenM (l := b) tab_34 rfl (hM_sl (f := enc8) rfl) ?_)
       refine qo hnt rfl (s_gtr rfl rfl ?_)
       refine r_end ?_
       refine q_then ?_
       refine w_if rfl (fun c7 => ?_) (fun c7 => ?_)
       ·
        have c7_ := c7
        try simp only [sB] at c7
        rw [if_pos (by omega)] at hG
        refine W_drawn tabOk mixed hnt [[],[0],[],[2],[0,1,2,3],[0,1,2,3,4],[0,1,2,3,4,5],[0,1,2,3,4,5],[0,1,2,3,4,5,6],[0,1,2,3,4,5,6,8]] (by kernel_rfl) ?_
        refine d_op ?_
        refine x_run0 [(0,pS 1 cl_b enc8 b)] [] rfl rfl rfl rfl (s_move rfl ⟨rfl,rfl,rfl⟩) ?_
        refine d_op ?_
        refine x_run0 [(51,pS 1 cl_b enc8 b)] [0] rfl rfl rfl rfl (s_cutM_lo (a := 6) (f := enc8) (l := b) tab_34 rfl tab_5 ⟨rfl,by decide⟩ rfl (bound_some rfl (by omega)) (by omega) ⟨rfl,rfl,rfl⟩) ?_
        refine d_op ?_
        refine x_run0 [(3,PV.ptr 0 0)] [] rfl rfl rfl rfl (s_fa_ptr tab_27 rfl rfl tab_3 (by decide) rfl ⟨rfl,rfl,rfl⟩) ?_
        refine d_op ?_
        refine x_run [(53,PV.ptr 0 2)] [2] [(0,.obj [pN (UInt8.toNat e1),pI vb,pI vc,pI 0,pI 0,pNil,pNil,p16 0,p16 0])] [] [(0,.obj [pN (UInt8.toNat e1),pI vb,pI vc,pI 0,pI 0,pNil,pNil,p16 0,p16 0])] [] [(0,.obj [pN (UInt8.toNat e1),pI vb,pI vc,pI 0,pI 0,pNil,pNil,p16 0,p16 0]),(1,.obj [pI 0,pI 0,pI 0,pI 0,pI 0,pNil,pNil,p16 0,p16 0])] rfl rfl rfl rfl rfl rfl (s_load_ptr1 tab_3 rfl rfl rfl rfl rfl ⟨rfl,rfl,rfl⟩) rfl ⟨rfl,trivial⟩ rfl rfl ?_
        refine d_op ?_
        refine x_run0 [(52,pS 1 cl_b enc8 (b.drop 6)),(54,pI vc)] [0,1,2,3] rfl rfl rfl rfl (s_callF rfl rfl rfl (w_burgageref1_Open_s (b.drop 6) cl_b vc (by rw [List.length_drop]; omega) (by omega)) rfl ⟨rfl,rfl,rfl⟩) ?_
        refine d_op ?_
        refine x_run0 [(55,PV.tup [pS 1 false encBo (bopV (b.drop 6) vc),pB (bopOk (b.drop 6) vc)])] [0,1,2,3,4] rfl rfl rfl rfl (s_move rfl ⟨rfl,rfl,rfl⟩) ?_
        refine d_op ?_
        refine x_run0 [(50,PV.tup [pS 1 false encBo (bopV (b.drop 6) vc),pB (bopOk (b.drop 6) vc)])] [0,1,2,3,4,5] rfl rfl rfl rfl (s_extract rfl rfl ⟨rfl,rfl,rfl⟩) ?_
        refine d_op ?_
        refine x_run0 [(50,PV.tup [pS 1 false encBo (bopV (b.drop 6) vc),pB (bopOk (b.drop 6) vc)])] [0,1,2,3,4,5] rfl rfl rfl rfl (s_extract rfl rfl ⟨rfl,rfl,rfl⟩) ?_
        refine d_op ?_
        refine x_run0 [(3,PV.ptr 0 0)] [0,1,2,3,4,5,6] rfl rfl rfl rfl (s_fa_ptr tab_27 rfl rfl tab_23 (by decide) rfl ⟨rfl,rfl,rfl⟩) ?_
        refine d_op ?_
        refine x_run [(58,PV.ptr 0 5),(56,pS 1 false encBo (bopV (b.drop 6) vc))] [0,1,2,3,4,5,6,8] [] [(0,.obj [pN (UInt8.toNat e1),pI vb,pI vc,pI 0,pI 0,pNil,pNil,p16 0,p16 0])] [(0,.obj [pN (UInt8.toNat e1),pI vb,pI vc,pI 0,pI 0,pS 1 false encBo (bopV (b.drop 6) vc),pNil,p16 0,p16 0])] [(0,.obj [pN (UInt8.toNat e1),pI vb,pI vc,pI 0,pI 0,pS 1 false encBo (bopV (b.drop 6) vc),pNil,p16 0,p16 0])] [(0,.obj [pN (UInt8.toNat e1),pI vb,pI vc,pI 0,pI 0,pS 1 false encBo (bopV (b.drop 6) vc),pNil,p16 0,p16 0]),(1,.obj [pI 0,pI 0,pI 0,pI 0,pI 0,pNil,pNil,p16 0,p16 0])] rfl rfl rfl rfl rfl rfl (s_store_ptr tab_23 rfl rfl rfl rfl rfl (Nat.le_of_ble_eq_true rfl) ⟨rfl,rfl,rfl⟩) rfl trivial rfl rfl ?_
        refine d_end ⟨by kernel_rfl, ?_⟩
        refine q_block ?_
        refine q_then ?_
        refine w_seq ?_
        refine w_R ?_
        refine qo hnt rfl (s_load_ptr tab_27 rfl rfl rfl (Nat.le_of_ble_eq_true rfl) ?_)
        refine qo hnt rfl (s_store_ptr tab_27 rfl rfl rfl rfl rfl (Nat.le_of_ble_eq_true rfl) ?_)
        refine r_set [(2,PV.ptr 1 0)] [(1,.obj [pN (UInt8.toNat e1),pI vb,pI vc,pI 0,pI 0,pS 1 false encBo (bopV (b.drop 6) vc),pNil,p16 0,p16 0]),(0,.obj [pN (UInt8.toNat e1),pI vb,pI vc,pI 0,pI 0,pS 1 false encBo (bopV (b.drop 6) vc),pNil,p16 0,p16 0])] 2 ⟨rfl,trivial⟩ rfl rfl ?_
        refine r_end ?_
        refine q_then ?_
        refine w_leO (n := 1) (ds := [pI G.fn,pI G.at_,pI G.count,pI G.wAt,pI G.sub,pS 1 false encBo G.bits,pS 1 false enc16 G.vals,p16 G.and_,p16 G.or_]) rfl ⟨le_of_eq (congrArg (fun z : Int => pI z) (show ((UInt8.toNat e1 : Nat) : Int) = G.fn by first|(rw [hG]; done)|(rw [hG]; rfl)|(rw [hG]; exact hvb)|(rw [hG]; exact hvd)|(rw [hG,hvd]; done)|(rw [hG,← hvd]; done)|(rw [hG]; simp [*]; done))),le_of_eq (congrArg (fun z : Int => pI z) (show vb = G.at_ by first|(rw [hG]; done)|(rw [hG]; rfl)|(rw [hG]; exact hvb)|(rw [hG]; exact hvd)|(rw [hG,hvd]; done)|(rw [hG,← hvd]; done)|(rw [hG]; simp [*]; done))),le_of_eq (congrArg (fun z : Int => pI z) (show vc = G.count by first|(rw [hG]; done)|(rw [hG]; rfl)|(rw [hG]; exact hvb)|(rw [hG]; exact hvd)|(rw [hG,hvd]; done)|(rw [hG,← hvd]; done)|(rw [hG]; simp [*]; done))),le_of_eq (congrArg (fun z : Int => pI z) (show 0 = G.wAt by first|(rw [hG]; done)|(rw [hG]; rfl)|(rw [hG]; exact hvb)|(rw [hG]; exact hvd)|(rw [hG,hvd]; done)|(rw [hG,← hvd]; done)|(rw [hG]; simp [*]; done))),le_of_eq (congrArg (fun z : Int => pI z) (show 0 = G.sub by first|(rw [hG]; done)|(rw [hG]; rfl)|(rw [hG]; exact hvb)|(rw [hG]; exact hvd)|(rw [hG,hvd]; done)|(rw [hG,← hvd]; done)|(rw [hG]; simp [*]; done))),le_of_eq (congrArg (fun z => pS 1 false encBo z) (show (bopV (b.drop 6) vc) = G.bits by first|(rw [hG]; done)|(rw [hG]; rfl)|(rw [hG]; exact hvb)|(rw [hG]; exact hvd)|(rw [hG,hvd]; done)|(rw [hG,← hvd]; done)|(rw [hG]; simp [*]; done))),le_tr (le_nilS 1 false) (le_of_eq (congrArg (fun z => pS 1 false enc16 z) (show [] = G.vals by first|(rw [hG]; done)|(rw [hG]; rfl)|(rw [hG]; exact hvb)|(rw [hG]; exact hvd)|(rw [hG,hvd]; done)|(rw [hG,← hvd]; done)|(rw [hG]; simp [*]; done)))),le_of_eq (congrArg (fun z : UInt16 => p16 z) (show 0 = G.and_ by first|(rw [hG]; done)|(rw [hG]; rfl)|(rw [hG]; exact hvb)|(rw [hG]; exact hvd)|(rw [hG,hvd]; done)|(rw [hG,← hvd]; done)|(rw [hG]; simp [*]; done))),le_of_eq (congrArg (fun z : UInt16 => p16 z) (show 0 = G.or_ by first|(rw [hG]; done)|(rw [hG]; rfl)|(rw [hG]; exact hvb)|(rw [hG]; exact hvd)|(rw [hG,hvd]; done)|(rw [hG,← hvd]; done)|(rw [hG]; simp [*]; done))),trivial⟩ ?_
        refine w_ret ?_
        exact fin_plain (ret_cell tab_27 (by decide) rfl rfl (Nat.le_of_ble_eq_true rfl) rfl ret_nil) rfl rfl ⟨rfl,rfl,rfl⟩
       ·
        have c7_ := c7
        try simp only [sB] at c7
        rw [if_neg (by omega)] at hG
        refine w_skip ?_
        refine q_block ?_
        refine q_then ?_
        refine w_seq ?_
        refine w_R ?_
        refine qo hnt rfl (s_load_ptr tab_27 rfl rfl rfl (Nat.le_of_ble_eq_true rfl) ?_)
        refine qo hnt rfl (s_store_ptr tab_27 rfl rfl rfl rfl rfl (Nat.le_of_ble_eq_true rfl) ?_)
        refine r_set [(2,PV.ptr 1 0)] [(1,.obj [pN (UInt8.toNat e1),pI vb,pI vc,pI 0,pI 0,pNil,pNil,p16 0,p16 0]),(0,.obj [pN (UInt8.toNat e1),pI vb,pI vc,pI 0,pI 0,pNil,pNil,p16 0,p16 0])] 2 ⟨rfl,trivial⟩ rfl rfl ?_
        refine r_end ?_
        refine q_then ?_
        refine w_leO (n := 1) (ds := [pI G.fn,pI G.at_,pI G.count,pI G.wAt,pI G.sub,pS 1 false encBo G.bits,pS 1 false enc16 G.vals,p16 G.and_,p16 G.or_]) rfl ⟨le_of_eq (congrArg (fun z : Int => pI z) (show ((UInt8.toNat e1 : Nat) : Int) = G.fn by first|(rw [hG]; done)|(rw [hG]; rfl)|(rw [hG]; exact hvb)|(rw [hG]; exact hvd)|(rw [hG,hvd]; done)|(rw [hG,← hvd]; done)|(rw [hG]; simp [*]; done))),le_of_eq (congrArg (fun z : Int => pI z) (show vb = G.at_ by first|(rw [hG]; done)|(rw [hG]; rfl)|(rw [hG]; exact hvb)|(rw [hG]; exact hvd)|(rw [hG,hvd]; done)|(rw [hG,← hvd]; done)|(rw [hG]; simp [*]; done))),le_of_eq (congrArg (fun z : Int => pI z) (show vc = G.count by first|(rw [hG]; done)|(rw [hG]; rfl)|(rw [hG]; exact hvb)|(rw [hG]; exact hvd)|(rw [hG,hvd]; done)|(rw [hG,← hvd]; done)|(rw [hG]; simp [*]; done))),le_of_eq (congrArg (fun z : Int => pI z) (show 0 = G.wAt by first|(rw [hG]; done)|(rw [hG]; rfl)|(rw [hG]; exact hvb)|(rw [hG]; exact hvd)|(rw [hG,hvd]; done)|(rw [hG,← hvd]; done)|(rw [hG]; simp [*]; done))),le_of_eq (congrArg (fun z : Int => pI z) (show 0 = G.sub by first|(rw [hG]; done)|(rw [hG]; rfl)|(rw [hG]; exact hvb)|(rw [hG]; exact hvd)|(rw [hG,hvd]; done)|(rw [hG,← hvd]; done)|(rw [hG]; simp [*]; done))),le_tr (le_nilS 1 false) (le_of_eq (congrArg (fun z => pS 1 false encBo z) (show [] = G.bits by first|(rw [hG]; done)|(rw [hG]; rfl)|(rw [hG]; exact hvb)|(rw [hG]; exact hvd)|(rw [hG,hvd]; done)|(rw [hG,← hvd]; done)|(rw [hG]; simp [*]; done)))),le_tr (le_nilS 1 false) (le_of_eq (congrArg (fun z => pS 1 false enc16 z) (show [] = G.vals by first|(rw [hG]; done)|(rw [hG]; rfl)|(rw [hG]; exact hvb)|(rw [hG]; exact hvd)|(rw [hG,hvd]; done)|(rw [hG,← hvd]; done)|(rw [hG]; simp [*]; done)))),le_of_eq (congrArg (fun z : UInt16 => p16 z) (show 0 = G.and_ by first|(rw [hG]; done)|(rw [hG]; rfl)|(rw [hG]; exact hvb)|(rw [hG]; exact hvd)|(rw [hG,hvd]; done)|(rw [hG,← hvd]; done)|(rw [hG]; simp [*]; done))),le_of_eq (congrArg (fun z : UInt16 => p16 z) (show 0 = G.or_ by first|(rw [hG]; done)|(rw [hG]; rfl)|(rw [hG]; exact hvb)|(rw [hG]; exact hvd)|(rw [hG,hvd]; done)|(rw [hG,← hvd]; done)|(rw [hG]; simp [*]; done))),trivial⟩ ?_
        refine w_ret ?_
        exact fin_plain (ret_cell tab_27 (by decide) rfl rfl (Nat.le_of_ble_eq_true rfl) rfl ret_nil) rfl rfl ⟨rfl,rfl,rfl⟩
      ·
       have c6_ := c6
       try simp only [sB] at c6
       refine w_seq ?_
       refine w_R ?_
       refine qo hnt rfl (s_eql rfl rfl ?_)
       refine qa hnt rfl rfl ?_
       refine r_end ?_
       refine q_then ?_
       refine w_if rfl (fun c8 => ?_) (fun c8 => ?_)
       ·
        have c8_ := c8
        try simp only [sB] at c8
        rw [guessR_16 hb0 (by omega)] at hG
        refine w_R ?_
        refine qm hnt rfl rfl ?_
        refine qo hnt rfl (s_callF rfl rfl rfl (w_burgageref3_words b cl_b 6 (by first|omega|assumption|(simp; omega)|decide|(simp; done)) (by first|omega|assumption|(simp; omega)|decide|(simp; done))) rfl ?_)
        refine qo hnt rfl (s_fa_ptr tab_27 rfl rfl tab_24 (by decide) rfl ?_)
        refine qo hnt rfl (s_store_ptr tab_24 rfl rfl rfl rfl rfl (Nat.le_of_ble_eq_true rfl) ?_)
        refine r_set [(2,PV.ptr 1 0),(3,PV.ptr 0 0)] [(0,.obj [pN (UInt8.toNat e1),pI vb,pI vc,pI 0,pI 0,pNil,pS 1 false enc16 (wordsAt b 6),p16 0,p16 0]),(1,.obj [pI 0,pI 0,pI 0,pI 0,pI 0,pNil,pNil,p16 0,p16 0])] 2 ⟨rfl,rfl,trivial⟩ rfl rfl ?_
        refine r_end ?_
        refine q_block ?_
        refine q_then ?_
        refine w_seq ?_
        refine w_R ?_
        refine qo hnt rfl (s_load_ptr tab_27 rfl rfl rfl (Nat.le_of_ble_eq_true rfl) ?_)
        refine qo hnt rfl (s_store_ptr tab_27 rfl rfl rfl rfl rfl (Nat.le_of_ble_eq_true rfl) ?_)
        refine r_set [(2,PV.ptr 1 0)] [(1,.obj [pN (UInt8.toNat e1),pI vb,pI vc,pI 0,pI 0,pNil,pS 1 false enc16 (wordsAt b 6),p16 0,p16 0]),(0,.obj [pN (UInt8.toNat e1),pI vb,pI vc,pI 0,pI 0,pNil,pS 1 false enc16 (wordsAt b 6),p16 0,p16 0])] 2 ⟨rfl,trivial⟩ rfl rfl ?_
        refine r_end ?_
        refine q_then ?_
        refine w_leO (n := 1) (ds := [pI G.fn,pI G.at_,pI G.count,pI G.wAt,pI G.sub,pS 1 false encBo G.bits,pS 1 false enc16 G.vals,p16 G.and_,p16 G.or_]) rfl ⟨le_of_eq (congrArg (fun z : Int => pI z) (show ((UInt8.toNat e1 : Nat) : Int) = G.fn by first|(rw [hG]; done)|(rw [hG]; rfl)|(rw [hG]; exact hvb)|(rw [hG]; exact hvd)|(rw [hG,hvd]; done)|(rw [hG,← hvd]; done)|(rw [hG]; simp [*]; done))),le_of_eq (congrArg (fun z : Int => pI z) (show vb = G.at_ by first|(rw [hG]; done)|(rw [hG]; rfl)|(rw [hG]; exact hvb)|(rw [hG]; exact hvd)|(rw [hG,hvd]; done)|(rw [hG,← hvd]; done)|(rw [hG]; simp [*]; done))),le_of_eq (congrArg (fun z : Int => pI z) (show vc = G.count by first|(rw [hG]; done)|(rw [hG]; rfl)|(rw [hG]; exact hvb)|(rw [hG]; exact hvd)|(rw [hG,hvd]; done)|(rw [hG,← hvd]; done)|(rw [hG]; simp [*]; done))),le_of_eq (congrArg (fun z : Int => pI z) (show 0 = G.wAt by first|(rw [hG]; done)|(rw [hG]; rfl)|(rw [hG]; exact hvb)|(rw [hG]; exact hvd)|(rw [hG,hvd]; done)|(rw [hG,← hvd]; done)|(rw [hG]; simp [*]; done))),le_of_eq (congrArg (fun z : Int => pI z) (show 0 = G.sub by first|(rw [hG]; done)|(rw [hG]; rfl)|(rw [hG]; exact hvb)|(rw [hG]; exact hvd)|(rw [hG,hvd]; done)|(rw [hG,← hvd]; done)|(rw [hG]; simp [*]; done))),le_tr (le_nilS 1 false) (le_of_eq (congrArg (fun z => pS 1 false encBo z) (show [] = G.bits by first|(rw [hG]; done)|(rw [hG]; rfl)|(rw [hG]; exact hvb)|(rw [hG]; exact hvd)|(rw [hG,hvd]; done)|(rw [hG,← hvd]; done)|(rw [hG]; simp [*]; done)))),le_of_eq (congrArg (fun z => pS 1 false enc16 z) (show (wordsAt b 6) = G.vals by first|(rw [hG]; done)|(rw [hG]; rfl)|(rw [hG]; exact hvb)|(rw [hG]; exact hvd)|(rw [hG,hvd]; done)|(rw [hG,← hvd]; done)|(rw [hG]; simp [*]; done))),le_of_eq (congrArg (fun z : UInt16 => p16 z) (show 0 = G.and_ by first|(rw [hG]; done)|(rw [hG]; rfl)|(rw [hG]; exact hvb)|(rw [hG]; exact hvd)|(rw [hG,hvd]; done)|(rw [hG,← hvd]; done)|(rw [hG]; simp [*]; done))),le_of_eq (congrArg (fun z : UInt16 => p16 z) (show 0 = G.or_ by first|(rw [hG]; done)|(rw [hG]; rfl)|(rw [hG]; exact hvb)|(rw [hG]; exact hvd)|(rw [hG,hvd]; done)|(rw [hG,← hvd]; done)|(rw [hG]; simp [*]; done))),trivial⟩ ?_
        refine w_ret ?_
        exact fin_plain (ret_cell tab_27 (by decide) rfl rfl (Nat.le_of_ble_eq_true rfl) rfl ret_nil) rfl rfl ⟨rfl,rfl,rfl⟩
       ·
        have c8_ := c8
        try simp only [sB] at c8
        refine w_seq ?_
        refine w_R ?_
        refine qo hnt rfl (s_eql rfl rfl ?_)
        refine qa hnt rfl rfl ?_
        refine r_end ?_
        refine q_then ?_
        refine w_if rfl (fun c9 => ?_) (fun c9 => ?_)
        ·
         have c9_ := c9
         try simp only [sB] at c9
         rw [guessR_22 hb0 (by omega)] at hG
         refine w_R ?_
         refine qm hnt rfl rfl ?_
         refine qo hnt rfl (s_callF rfl rfl rfl (w_burgageref3_num b cl_b 3 (by first|omega|assumption|(simp; omega)|decide|(simp; done)) (by first|omega|assumption|(simp; omega)|decide|(simp; done))) rfl ?_)
         refine qo hnt rfl (s_cv16 tab_3 tab_25 rfl rfl rfl ?_)
         refine qm hnt rfl rfl ?_
         refine qo hnt rfl (s_callF rfl rfl rfl (w_burgageref3_num b cl_b 5 (by first|omega|assumption|(simp; omega)|decide|(simp; done)) (by first|omega|assumption|(simp; omega)|decide|(simp; done))) rfl ?_)
         refine qo hnt rfl (s_cv16 tab_3 tab_25 rfl rfl rfl ?_)
         refine qo hnt rfl (s_fa_ptr tab_27 rfl rfl tab_25 (by decide) rfl ?_)
         refine qo hnt rfl (s_store_ptr tab_25 rfl rfl rfl rfl rfl (Nat.le_of_ble_eq_true rfl) ?_)
         refine qo hnt rfl (s_fa_ptr tab_27 rfl rfl tab_25 (by decide) rfl ?_)
         refine qo hnt rfl (s_store_ptr tab_25 rfl rfl rfl rfl rfl (Nat.le_of_ble_eq_true rfl) ?_)
         refine r_set [(2,PV.ptr 1 0),(3,PV.ptr 0 0)] [(0,.obj [pN (UInt8.toNat e1),pI vb,pI vc,pI 0,pI 0,pNil,pNil,p16 (u16I (getV b 3)),p16 (u16I (getV b 5))]),(1,.obj [pI 0,pI 0,pI 0,pI 0,pI 0,pNil,pNil,p16 0,p16 0])] 2 ⟨rfl,rfl,trivial⟩ rfl rfl ?_
         refine r_end ?_
         refine q_block ?_
         refine q_then ?_
         refine w_seq ?_
         refine w_R ?_
         refine qo hnt rfl (s_load_ptr tab_27 rfl rfl rfl (Nat.le_of_ble_eq_true rfl) ?_)
         refine qo hnt rfl (s_store_ptr tab_27 rfl rfl rfl rfl rfl (Nat.le_of_ble_eq_true rfl) ?_)
         refine r_set [(2,PV.ptr 1 0)] [(1,.obj [pN (UInt8.toNat e1),pI vb,pI vc,pI 0,pI 0,pNil,pNil,p16 (u16I (getV b 3)),p16 (u16I (getV b 5))]),(0,.obj [pN (UInt8.toNat e1),pI vb,pI vc,pI 0,pI 0,pNil,pNil,p16 (u16I (getV b 3)),p16 (u16I (getV b 5))])] 2 ⟨rfl,trivial⟩ rfl rfl ?_
         refine r_end ?_
         refine q_then ?_
         refine w_leO (n := 1) (ds := [pI G.fn,pI G.at_,pI G.count,pI G.wAt,pI G.sub,pS 1 false encBo G.bits,pS 1 false enc16 G.vals,p16 G.and_,p16 G.or_]) rfl ⟨le_of_eq (congrArg (fun z : Int => pI z) (show ((UInt8.toNat e1 : Nat) : Int) = G.fn by first|(rw [hG]; done)|(rw [hG]; rfl)|(rw [hG]; exact hvb)|(rw [hG]; exact hvd)|(rw [hG,hvd]; done)|(rw [hG,← hvd]; done)|(rw [hG]; simp [*]; done))),le_of_eq (congrArg (fun z : Int => pI z) (show vb = G.at_ by first|(rw [hG]; done)|(rw [hG]; rfl)|(rw [hG]; exact hvb)|(rw [hG]; exact hvd)|(rw [hG,hvd]; done)|(rw [hG,← hvd]; done)|(rw [hG]; simp [*]; done))),le_of_eq (congrArg (fun z : Int => pI z) (show vc = G.count by first|(rw [hG]; done)|(rw [hG]; rfl)|(rw [hG]; exact hvb)|(rw [hG]; exact hvd)|(rw [hG,hvd]; done)|(rw [hG,← hvd]; done)|(rw [hG]; simp [*]; done))),le_of_eq (congrArg (fun z : Int => pI z) (show 0 = G.wAt by first|(rw [hG]; done)|(rw [hG]; rfl)|(rw [hG]; exact hvb)|(rw [hG]; exact hvd)|(rw [hG,hvd]; done)|(rw [hG,← hvd]; done)|(rw [hG]; simp [*]; done))),le_of_eq (congrArg (fun z : Int => pI z) (show 0 = G.sub by first|(rw [hG]; done)|(rw [hG]; rfl)|(rw [hG]; exact hvb)|(rw [hG]; exact hvd)|(rw [hG,hvd]; done)|(rw [hG,← hvd]; done)|(rw [hG]; simp [*]; done))),le_tr (le_nilS 1 false) (le_of_eq (congrArg (fun z => pS 1 false encBo z) (show [] = G.bits by first|(rw [hG]; done)|(rw [hG]; rfl)|(rw [hG]; exact hvb)|(rw [hG]; exact hvd)|(rw [hG,hvd]; done)|(rw [hG,← hvd]; done)|(rw [hG]; simp [*]; done)))),le_tr (le_nilS 1 false) (le_of_eq (congrArg (fun z => pS 1 false enc16 z) (show [] = G.vals by first|(rw [hG]; done)|(rw [hG]; rfl)|(rw [hG]; exact hvb)|(rw [hG]; exact hvd)|(rw [hG,hvd]; done)|(rw [hG,← hvd]; done)|(rw [hG]; simp [*]; done)))),le_of_eq (congrArg (fun z : UInt16 => p16 z) (show (u16I (getV b 3)) = G.and_ by first|(rw [hG]; done)|(rw [hG]; rfl)|(rw [hG]; exact hvb)|(rw [hG]; exact hvd)|(rw [hG,hvd]; done)|(rw [hG,← hvd]; done)|(rw [hG]; simp [*]; done))),le_of_eq (congrArg (fun z : UInt16 => p16 z) (show (u16I (getV b 5)) = G.or_ by first|(rw [hG]; done)|(rw [hG]; rfl)|(rw [hG]; exact hvb)|(rw [hG]; exact hvd)|(rw [hG,hvd]; done)|(rw [hG,← hvd]; done)|(rw [hG]; simp [*]; done))),trivial⟩ ?_
         refine w_ret ?_
         exact fin_plain (ret_cell tab_27 (by decide) rfl rfl (Nat.le_of_ble_eq_true rfl) rfl ret_nil) rfl rfl ⟨rfl,rfl,rfl⟩
        ·
         have c9_ := c9
         try simp only [sB] at c9
         refine w_seq ?_
         refine w_R ?_
         refine qo hnt rfl (s_eql rfl rfl ?_)
         refine qa hnt rfl rfl ?_
         refine r_end ?_
         refine q_then ?_
         refine w_if rfl (fun c10 => ?_) (fun c10 => ?_)
         ·
          have c10_ := c10
          try simp only [sB] at c10
          rw [guessR_23 hb0 (by omega)] at hG
          refine w_R ?_
          refine qm hnt rfl rfl ?_
          refine qo hnt rfl (s_callF rfl rfl rfl (w_burgageref3_num b cl_b 5 (by first|omega|assumption|(simp; omega)|decide|(simp; done)) (by first|omega|assumption|(simp; omega)|decide|(simp; done))) rfl ?_)
          refine qm hnt rfl rfl ?_
          refine qo hnt rfl (s_callF rfl rfl rfl (w_burgageref3_words b cl_b 10 (by first|omega|assumption|(simp; omega)|decide|(simp; done)) (by first|omega|assumption|(simp; omega)|decide|(simp; done))) rfl ?_)
          refine qo hnt rfl (s_fa_ptr tab_27 rfl rfl tab_3 (by decide) rfl ?_)
          refine qo hnt rfl (s_store_ptr tab_3 rfl rfl rfl rfl rfl (Nat.le_of_ble_eq_true rfl) ?_)
          refine qo hnt rfl (s_fa_ptr tab_27 rfl rfl tab_24 (by decide) rfl ?_)
          refine qo hnt rfl (s_store_ptr tab_24 rfl rfl rfl rfl rfl (Nat.le_of_ble_eq_true rfl) ?_)
          refine r_set [(2,PV.ptr 1 0),(3,PV.ptr 0 0)] [(0,.obj [pN (UInt8.toNat e1),pI vb,pI vc,pI (getV b 5),pI 0,pNil,pS 1 false enc16 (wordsAt b 10),p16 0,p16 0]),(1,.obj [pI 0,pI 0,pI 0,pI 0,pI 0,pNil,pNil,p16 0,p16 0])] 2 ⟨rfl,rfl,trivial⟩ rfl rfl ?_
          refine r_end ?_
          refine q_block ?_
          refine q_then ?_
          refine w_seq ?_
          refine w_R ?_
          refine qo hnt rfl (s_load_ptr tab_27 rfl rfl rfl (Nat.le_of_ble_eq_true rfl) ?_)
          refine qo hnt rfl (s_store_ptr tab_27 rfl rfl rfl rfl rfl (Nat.le_of_ble_eq_true rfl) ?_)
          refine r_set [(2,PV.ptr 1 0)] [(1,.obj [pN (UInt8.toNat e1),pI vb,pI vc,pI (getV b 5),pI 0,pNil,pS 1 false enc16 (wordsAt b 10),p16 0,p16 0]),(0,.obj [pN (UInt8.toNat e1),pI vb,pI vc,pI (getV b 5),pI 0,pNil,pS 1 false enc16 (wordsAt b 10),p16 0,p16 0])] 2 ⟨rfl,trivial⟩ rfl rfl ?_
          refine r_end ?_
          refine q_then ?_
          refine w_leO (n := 1) (ds := [pI G.fn,pI G.at_,pI G.count,pI G.wAt,pI G.sub,pS 1 false encBo G.bits,pS 1 false enc16 G.vals,p16 G.and_,p16 G.or_]) rfl ⟨le_of_eq (congrArg (fun z : Int => pI z) (show ((UInt8.toNat e1 : Nat) : Int) = G.fn by first|(rw [hG]; done)|(rw [hG]; rfl)|(rw [hG]; exact hvb)|(rw [hG]; exact hvd)|(rw [hG,hvd]; done)|(rw [hG,← hvd]; done)|(rw [hG]; simp [*]; done))),le_of_eq (congrArg (fun z : Int => pI z) (show vb = G.at_ by first|(rw [hG]; done)|(rw [hG]; rfl)|(rw [hG]; exact hvb)|(rw [hG]; exact hvd)|(rw [hG,hvd]; done)|(rw [hG,← hvd]; done)|(rw [hG]; simp [*]; done))),le_of_eq (congrArg (fun z : Int => pI z) (show vc = G.count by first|(rw [hG]; done)|(rw [hG]; rfl)|(rw [hG]; exact hvb)|(rw [hG]; exact hvd)|(rw [hG,hvd]; done)|(rw [hG,← hvd]; done)|(rw [hG]; simp [*]; done))),le_of_eq (congrArg (fun z : Int => pI z) (show (getV b 5) = G.wAt by first|(rw [hG]; done)|(rw [hG]; rfl)|(rw [hG]; exact hvb)|(rw [hG]; exact hvd)|(rw [hG,hvd]; done)|(rw [hG,← hvd]; done)|(rw [hG]; simp [*]; done))),le_of_eq (congrArg (fun z : Int => pI z) (show 0 = G.sub by first|(rw [hG]; done)|(rw [hG]; rfl)|(rw [hG]; exact hvb)|(rw [hG]; exact hvd)|(rw [hG,hvd]; done)|(rw [hG,← hvd]; done)|(rw [hG]; simp [*]; done))),le_tr (le_nilS 1 false) (le_of_eq (congrArg (fun z => pS 1 false encBo z) (show [] = G.bits by first|(rw [hG]; done)|(rw [hG]; rfl)|(rw [hG]; exact hvb)|(rw [hG]; exact hvd)|(rw [hG,hvd]; done)|(rw [hG,← hvd]; done)|(rw [hG]; simp [*]; done)))),le_of_eq (congrArg (fun z => pS 1 false enc16 z) (show (wordsAt b 10) = G.vals by first|(rw [hG]; done)|(rw [hG]; rfl)|(rw [hG]; exact hvb)|(rw [hG]; exact hvd)|(rw [hG,hvd]; done)|(rw [hG,← hvd]; done)|(rw [hG]; simp [*]; done))),le_of_eq (congrArg (fun z : UInt16 => p16 z) (show 0 = G.and_ by first|(rw [hG]; done)|(rw [hG]; rfl)|(rw [hG]; exact hvb)|(rw [hG]; exact hvd)|(rw [hG,hvd]; done)|(rw [hG,← hvd]; done)|(rw [hG]; simp [*]; done))),le_of_eq (congrArg (fun z : UInt16 => p16 z) (show 0 = G.or_ by first|(rw [hG]; done)|(rw [hG]; rfl)|(rw [hG]; exact hvb)|(rw [hG]; exact hvd)|(rw [hG,hvd]; done)|(rw [hG,← hvd]; done)|(rw [hG]; simp [*]; done))),trivial⟩ ?_
          refine w_ret ?_
          exact fin_plain (ret_cell tab_27 (by decide) rfl rfl (Nat.le_of_ble_eq_true rfl) rfl ret_nil) rfl rfl ⟨rfl,rfl,rfl⟩
         ·
          have c10_ := c10
          try simp only [sB] at c10
          rw [guessR_no hb0 (by omega)] at hG
          refine w_skip ?_
          refine q_block ?_
          refine q_then ?_
          refine w_seq ?_
          refine w_R ?_
          refine qo hnt rfl (s_load_ptr tab_27 rfl rfl rfl (Nat.le_of_ble_eq_true rfl) ?_)
          refine qo hnt rfl (s_store_ptr tab_27 rfl rfl rfl rfl rfl (Nat.le_of_ble_eq_true rfl) ?_)
          refine r_set [(2,PV.ptr 1 0)] [(1,.obj [pN (UInt8.toNat e1),pI vb,pI vc,pI 0,pI 0,pNil,pNil,p16 0,p16 0]),(0,.obj [pN (UInt8.toNat e1),pI vb,pI vc,pI 0,pI 0,pNil,pNil,p16 0,p16 0])] 2 ⟨rfl,trivial⟩ rfl rfl ?_
          refine r_end ?_
          refine q_then ?_
          refine w_leO (n := 1) (ds := [pI G.fn,pI G.at_,pI G.count,pI G.wAt,pI G.sub,pS 1 false encBo G.bits,pS 1 false enc16 G.vals,p16 G.and_,p16 G.or_]) rfl ⟨le_of_eq (congrArg (fun z : Int => pI z) (show ((UInt8.toNat e1 : Nat) : Int) = G.fn by first|(rw [hG]; done)|(rw [hG]; rfl)|(rw [hG]; exact hvb)|(rw [hG]; exact hvd)|(rw [hG,hvd]; done)|(rw [hG,← hvd]; done)|(rw [hG]; simp [*]; done))),le_of_eq (congrArg (fun z : Int => pI z) (show vb = G.at_ by first|(rw [hG]; done)|(rw [hG]; rfl)|(rw [hG]; exact hvb)|(rw [hG]; exact hvd)|(rw [hG,hvd]; done)|(rw [hG,← hvd]; done)|(rw [hG]; simp [*]; done))),le_of_eq (congrArg (fun z : Int => pI z) (show vc = G.count by first|(rw [hG]; done)|(rw [hG]; rfl)|(rw [hG]; exact hvb)|(rw [hG]; exact hvd)|(rw [hG,hvd]; done)|(rw [hG,← hvd]; done)|(rw [hG]; simp [*]; done))),le_of_eq (congrArg (fun z : Int => pI z) (show 0 = G.wAt by first|(rw [hG]; done)|(rw [hG]; rfl)|(rw [hG]; exact hvb)|(rw [hG]; exact hvd)|(rw [hG,hvd]; done)|(rw [hG,← hvd]; done)|(rw [hG]; simp [*]; done))),le_of_eq (congrArg (fun z : Int => pI z) (show 0 = G.sub by first|(rw [hG]; done)|(rw [hG]; rfl)|(rw [hG]; exact hvb)|(rw [hG]; exact hvd)|(rw [hG,hvd]; done)|(rw [hG,← hvd]; done)|(rw [hG]; simp [*]; done))),le_tr (le_nilS 1 false) (le_of_eq (congrArg (fun z => pS 1 false encBo z) (show [] = G.bits by first|(rw [hG]; done)|(rw [hG]; rfl)|(rw [hG]; exact hvb)|(rw [hG]; exact hvd)|(rw [hG,hvd]; done)|(rw [hG,← hvd]; done)|(rw [hG]; simp [*]; done)))),le_tr (le_nilS 1 false) (le_of_eq (congrArg (fun z => pS 1 false enc16 z) (show [] = G.vals by first|(rw [hG]; done)|(rw [hG]; rfl)|(rw [hG]; exact hvb)|(rw [hG]; exact hvd)|(rw [hG,hvd]; done)|(rw [hG,← hvd]; done)|(rw [hG]; simp [*]; done)))),le_of_eq (congrArg (fun z : UInt16 => p16 z) (show 0 = G.and_ by first|(rw [hG]; done)|(rw [hG]; rfl)|(rw [hG]; exact hvb)|(rw [hG]; exact hvd)|(rw [hG,hvd]; done)|(rw [hG,← hvd]; done)|(rw [hG]; simp [*]; done))),le_of_eq (congrArg (fun z : UInt16 => p16 z) (show 0 = G.or_ by first|(rw [hG]; done)|(rw [hG]; rfl)|(rw [hG]; exact hvb)|(rw [hG]; exact hvd)|(rw [hG,hvd]; done)|(rw [hG,← hvd]; done)|(rw [hG]; simp [*]; done))),trivial⟩ ?_
          refine w_ret ?_
          exact fin_plain (ret_cell tab_27 (by decide) rfl rfl (Nat.le_of_ble_eq_true rfl) rfl ret_nil) rfl rfl ⟨rfl,rfl,rfl⟩
theorem w_burgageref3_Read (b : List UInt8) (cl_b : Bool) (R : TRequest × Int) (hR : R = readWith guessR b) (hb : b.length ≤ 140737488351232) :
    T Try.prog 50 [pS 1 cl_b enc8 b] 0 [] (Ret (PV.tup [PV.f (eRequest R.1),pI R.2]) 0 []) := by
 refine t_fun tabOk (n := 31) (rs := [.cell 2 27,.tmp 3]) Try.func50 rfl rfl rfl rfl (Nat.le_of_ble_eq_true rfl) ?_
 intro c hnt hk
 refine w_seq ?_
 refine w_R ?_
 refine qo hnt rfl (s_alloc tab_27 ?_)
 refine qa hnt rfl rfl ?_
 refine r_set [(0,pS 1 cl_b enc8 b),(2,PV.ptr 0 0)] [(0,.obj [pI 0,pI 0,pI 0,pI 0,pI 0,pNil,pNil,p16 0,p16 0])] 1 ⟨rfl,rfl,trivial⟩ rfl rfl ?_
 refine r_end ?_
 refine q_then ?_
 refine w_seq ?_
 refine w_seq ?_
 refine w_R ?_
 refine qm hnt rfl rfl ?_
 refine qo hnt rfl (s_lenM (l := b) tab_34 rfl (hM_sl (f := enc8) rfl) ?_)
 refine qo hnt rfl (s_eql rfl rfl ?_)
 refine r_end ?_
 refine q_then ?_
 refine w_if rfl (fun c1 => ?_) (fun c1 => ?_)
 ·
  have c1_ := c1
  try simp only [sB] at c1
  rw [readW_1 (by omega)] at hR
  refine w_seq ?_
  refine w_R ?_
  refine qo hnt rfl (s_build tab_27 rfl rfl (b_nil ?_))
  refine qo hnt rfl (s_store_ptr tab_27 rfl rfl rfl rfl rfl (Nat.le_of_ble_eq_true rfl) ?_)
  refine qa hnt rfl rfl ?_
  refine r_set [(2,PV.ptr 0 0),(3,pI 13)] [(0,.obj [pI 0,pI 0,pI 0,pI 0,pI 0,pNil,pNil,p16 0,p16 0])] 1 ⟨rfl,rfl,trivial⟩ rfl rfl ?_
  refine r_end ?_
  refine q_then ?_
  refine w_leO (n := 0) (ds := [pI R.1.fn,pI R.1.at_,pI R.1.count,pI R.1.wAt,pI R.1.sub,pS 1 false encBo R.1.bits,pS 1 false enc16 R.1.vals,p16 R.1.and_,p16 R.1.or_]) rfl ⟨le_of_eq (congrArg (fun z : Int => pI z) (show 0 = R.1.fn by first|(rw [hR]; done)|(rw [hR]; rfl))),le_of_eq (congrArg (fun z : Int => pI z) (show 0 = R.1.at_ by first|(rw [hR]; done)|(rw [hR]; rfl))),le_of_eq (congrArg (fun z : Int => pI z) (show 0 = R.1.count by first|(rw [hR]; done)|(rw [hR]; rfl))),le_of_eq (congrArg (fun z : Int => pI z) (show 0 = R.1.wAt by first|(rw [hR]; done)|(rw [hR]; rfl))),le_of_eq (congrArg (fun z : Int => pI z) (show 0 = R.1.sub by first|(rw [hR]; done)|(rw [hR]; rfl))),le_tr (le_nilS 1 false) (le_of_eq (congrArg (fun z => pS 1 false encBo z) (show [] = R.1.bits by first|(rw [hR]; done)|(rw [hR]; rfl)))),le_tr (le_nilS 1 false) (le_of_eq (congrArg (fun z => pS 1 false enc16 z) (show [] = R.1.vals by first|(rw [hR]; done)|(rw [hR]; rfl)))),le_of_eq (congrArg (fun z : UInt16 => p16 z) (show 0 = R.1.and_ by first|(rw [hR]; done)|(rw [hR]; rfl))),le_of_eq (congrArg (fun z : UInt16 => p16 z) (show 0 = R.1.or_ by first|(rw [hR]; done)|(rw [hR]; rfl))),trivial⟩ ?_
  refine w_le (s := 3) (y := pI R.2) rfl (le_of_eq (congrArg (fun z : Int => pI z) (show 13 = R.2 by first|(rw [hR]; done)|(rw [hR]; rfl)))) ?_
  refine w_ret ?_
  refine q_then_ret ?_
  exact fin_plain (ret_cell tab_27 (by decide) rfl rfl (Nat.le_of_ble_eq_true rfl) rfl (ret_tmp rfl ret_nil)) rfl rfl ⟨rfl,rfl,rfl⟩
 ·
  have c1_ := c1
  try simp only [sB] at c1
  refine w_skip ?_
  refine q_then ?_
  refine w_seq ?_
  refine w_seq ?_
  refine w_R ?_
  refine qm hnt rfl rfl ?_
  obtain ⟨e1,he1⟩ := get_of_lt b (i := 0) (by omega)
  refine qo hnt rfl (s_iaM (q := 0) (b := e1) (f := enc8) tab_34 rfl tab_5 rfl rfl (by omega) rfl he1 ?_)
  refine qo hnt rfl (s_load_ro1 tab_5 rfl rfl rfl rfl ?_)
  have hb0 : b.getD 0 0 = e1 := by rw [List.getD_eq_getElem?_getD,he1]; rfl
  refine qo hnt rfl (s_cvN (a := UInt8.toNat e1) tab_5 tab_3 rfl rfl rfl (by omega) (by have := lt8 e1; omega) ?_)
  refine qo hnt rfl (s_callF rfl rfl rfl (w_burgageref3_Has ((UInt8.toNat e1 : Nat) : Int)) rfl ?_)
  refine qo hnt rfl (s_not rfl ?_)
  refine r_end ?_
  refine q_then ?_
  refine w_if rfl (fun c2 => ?_) (fun c2 => ?_)
  ·
   have c2_ := c2
   try simp only [sB] at c2
   rw [readW_2 (by omega) hb0 (by simpa using c2)] at hR
   refine w_seq ?_
   refine w_R ?_
   refine qo hnt rfl (s_build tab_27 rfl rfl (b_nil ?_))
   refine qo hnt rfl (s_store_ptr tab_27 rfl rfl rfl rfl rfl (Nat.le_of_ble_eq_true rfl) ?_)
   refine qa hnt rfl rfl ?_
   refine r_set [(2,PV.ptr 0 0),(3,pI 15)] [(0,.obj [pI 0,pI 0,pI 0,pI 0,pI 0,pNil,pNil,p16 0,p16 0])] 1 ⟨rfl,rfl,trivial⟩ rfl rfl ?_
   refine r_end ?_
   refine q_then ?_
   refine w_leO (n := 0) (ds := [pI R.1.fn,pI R.1.at_,pI R.1.count,pI R.1.wAt,pI R.1.sub,pS 1 false encBo R.1.bits,pS 1 false enc16 R.1.vals,p16 R.1.and_,p16 R.1.or_]) rfl ⟨le_of_eq (congrArg (fun z : Int => pI z) (show 0 = R.1.fn by first|(rw [hR]; done)|(rw [hR]; rfl))),le_of_eq (congrArg (fun z : Int => pI z) (show 0 = R.1.at_ by first|(rw [hR]; done)|(rw [hR]; rfl))),le_of_eq (congrArg (fun z : Int => pI z) (show 0 = R.1.count by first|(rw [hR]; done)|(rw [hR]; rfl))),le_of_eq (congrArg (fun z : Int => pI z) (show 0 = R.1.wAt by first|(rw [hR]; done)|(rw [hR]; rfl))),le_of_eq (congrArg (fun z : Int => pI z) (show 0 = R.1.sub by first|(rw [hR]; done)|(rw [hR]; rfl))),le_tr (le_nilS 1 false) (le_of_eq (congrArg (fun z => pS 1 false encBo z) (show [] = R.1.bits by first|(rw [hR]; done)|(rw [hR]; rfl)))),le_tr (le_nilS 1 false) (le_of_eq (congrArg (fun z => pS 1 false enc16 z) (show [] = R.1.vals by first|(rw [hR]; done)|(rw [hR]; rfl)))),le_of_eq (congrArg (fun z : UInt16 => p16 z) (show 0 = R.1.and_ by first|(rw [hR]; done)|(rw [hR]; rfl))),le_of_eq (congrArg (fun z : UInt16 => p16 z) (show 0 = R.1.or_ by first|(rw [hR]; done)|(rw [hR]; rfl))),trivial⟩ ?_
   refine w_le (s := 3) (y := pI R.2) rfl (le_of_eq (congrArg (fun z : Int => pI z) (show 15 = R.2 by first|(rw [hR]; done)|(rw [hR]; rfl)))) ?_
   refine w_ret ?_
   refine q_then_ret ?_
   exact fin_plain (ret_cell tab_27 (by decide) rfl rfl (Nat.le_of_ble_eq_true rfl) rfl (ret_tmp rfl ret_nil)) rfl rfl ⟨rfl,rfl,rfl⟩
  ·
   have c2_ := c2
   try simp only [sB] at c2
   refine w_skip ?_
   refine q_then ?_
   refine w_seq ?_
   refine w_R ?_
   refine qm hnt rfl rfl ?_
   obtain ⟨G1,hG1⟩ : ∃ z : TRequest,z = guessR b := ⟨_,rfl⟩
   refine qo hnt rfl (s_callF rfl rfl rfl (w_burgageref3_guess b cl_b G1 hG1 (by first|omega|assumption|(simp; omega)|decide|(simp; done)) (by first|omega|assumption|(simp; omega)|decide|(simp; done))) rfl ?_)
   refine qo hnt rfl (s_alloc tab_27 ?_)
   refine qo hnt rfl (s_store_ptr tab_27 rfl rfl rfl rfl rfl (Nat.le_of_ble_eq_true rfl) ?_)
   refine r_set [(0,pS 1 cl_b enc8 b),(2,PV.ptr 0 0),(4,PV.ptr 1 0)] [(1,.obj [pI G1.fn,pI G1.at_,pI G1.count,pI G1.wAt,pI G1.sub,pS 1 false encBo G1.bits,pS 1 false enc16 G1.vals,p16 G1.and_,p16 G1.or_]),(0,.obj [pI 0,pI 0,pI 0,pI 0,pI 0,pNil,pNil,p16 0,p16 0])] 2 ⟨rfl,rfl,rfl,trivial⟩ rfl rfl ?_
   refine r_end ?_
   refine q_then ?_
   refine w_seq ?_
   refine w_seq ?_
   have hgl := guessR_len b
   rw [← hG1] at hgl
   refine W_drawn tabOk mixed hnt [[],[0],[0,1],[0,1,2],[0,1,2,3],[0,1,2,3,4],[0,1,2,3,4,5],[0,1,2,3],[0,1,2,3,7],[0,1,2,3,4,5,6,7,8],[0,1,2,3,4,5,6,7,8,9]] (by kernel_rfl) ?_
   refine d_op ?_
   refine x_run [(4,PV.ptr 1 0)] [] [(1,.obj [pI G1.fn,pI G1.at_,pI G1.count,pI G1.wAt,pI G1.sub,pS 1 false encBo G1.bits,pS 1 false enc16 G1.vals,p16 G1.and_,p16 G1.or_])] [] [(1,.obj [pI G1.fn,pI G1.at_,pI G1.count,pI G1.wAt,pI G1.sub,pS 1 false encBo G1.bits,pS 1 false enc16 G1.vals,p16 G1.and_,p16 G1.or_])] [] [(1,.obj [pI G1.fn,pI G1.at_,pI G1.count,pI G1.wAt,pI G1.sub,pS 1 false encBo G1.bits,pS 1 false enc16 G1.vals,p16 G1.and_,p16 G1.or_]),(0,.obj [pI 0,pI 0,pI 0,pI 0,pI 0,pNil,pNil,p16 0,p16 0])] rfl rfl rfl rfl rfl rfl (s_load_ptr tab_27 rfl rfl rfl (Nat.le_of_ble_eq_true rfl) ⟨rfl,rfl,rfl⟩) rfl ⟨rfl,trivial⟩ rfl rfl ?_
   refine d_op ?_
   refine x_run0 [(18,PV.f (.agg [encI G1.fn,encI G1.at_,encI G1.count,encI G1.wAt,encI G1.sub,FV.sl 1 false (List.map encBo G1.bits),FV.sl 1 false (List.map enc16 G1.vals),enc16 G1.and_,enc16 G1.or_]))] [0] rfl rfl rfl rfl (s_callF rfl rfl rfl (w_burgageref3_Right G1 (by omega) (by omega)) rfl ⟨rfl,rfl,rfl⟩) ?_
   refine d_op ?_
   refine x_run0 [(19,pI (rightR G1))] [0,1] rfl rfl rfl rfl (s_neq rfl rfl ⟨rfl,rfl,rfl⟩) ?_
   refine d_op ?_
   refine x_run0 [(20,pB (!decide (rightR G1 = 0)))] [0,1,2] rfl rfl rfl rfl (s_move rfl ⟨rfl,rfl,rfl⟩) ?_
   refine x_if [(21,pB (!decide (rightR G1 = 0))),(4,PV.ptr 1 0)] [0,1,2,3] rfl rfl rfl rfl (fun g1 => ?_) (fun g1 => ?_)
   ·
    have g1' := g1
    try simp only [sB] at g1'
    have hg0 : rightR G1 = 0 := by first|exact g1'|simpa using g1
    have hsh := (rightR_zero hg0).2
    have hsm := shape_small hsh
    have h5b := hsh.bits
    have h6b := hsh.vals
    refine x_run [(21,pB (!decide (rightR G1 = 0))),(4,PV.ptr 1 0)] [0,1,2,3] [(1,.obj [pI G1.fn,pI G1.at_,pI G1.count,pI G1.wAt,pI G1.sub,pS 1 false encBo G1.bits,pS 1 false enc16 G1.vals,p16 G1.and_,p16 G1.or_])] [] [(1,.obj [pI G1.fn,pI G1.at_,pI G1.count,pI G1.wAt,pI G1.sub,pS 1 false encBo G1.bits,pS 1 false enc16 G1.vals,p16 G1.and_,p16 G1.or_])] [] [(1,.obj [pI G1.fn,pI G1.at_,pI G1.count,pI G1.wAt,pI G1.sub,pS 1 false encBo G1.bits,pS 1 false enc16 G1.vals,p16 G1.and_,p16 G1.or_]),(0,.obj [pI 0,pI 0,pI 0,pI 0,pI 0,pNil,pNil,p16 0,p16 0])] rfl rfl rfl rfl rfl rfl (s_load_ptr tab_27 rfl rfl rfl (Nat.le_of_ble_eq_true rfl) ⟨rfl,rfl,rfl⟩) rfl ⟨rfl,trivial⟩ rfl rfl ?_
    refine xy [(21,pB (!decide (rightR G1 = 0))),(22,PV.f (.agg [encI G1.fn,encI G1.at_,encI G1.count,encI G1.wAt,encI G1.sub,FV.sl 1 false (List.map encBo G1.bits),FV.sl 1 false (List.map enc16 G1.vals),enc16 G1.and_,enc16 G1.or_]))] [0,1,2,3,4] rfl rfl rfl rfl g1 ?_
    refine x_run [(21,pB (!decide (rightR G1 = 0))),(22,PV.f (.agg [encI G1.fn,encI G1.at_,encI G1.count,encI G1.wAt,encI G1.sub,FV.sl 1 false (List.map encBo G1.bits),FV.sl 1 false (List.map enc16 G1.vals),enc16 G1.and_,enc16 G1.or_]))] [0,1,2,3,4] [] [] [(2,oB false 1 enc8 (writeR G1))] [(2,oB false 1 enc8 (writeR G1))] [(2,oB false 1 enc8 (writeR G1)),(1,.obj [pI G1.fn,pI G1.at_,pI G1.count,pI G1.wAt,pI G1.sub,pS 1 false encBo G1.bits,pS 1 false enc16 G1.vals,p16 G1.and_,p16 G1.or_]),(0,.obj [pI 0,pI 0,pI 0,pI 0,pI 0,pNil,pNil,p16 0,p16 0])] rfl rfl rfl rfl rfl rfl (s_callX (r2 := PV.ref 2 0 none) (nx1 := 3) (H2 := []) (H3 := [(2,oB false 1 enc8 (writeR G1))]) [] [] rfl rfl rfl (handed_of (by decide) trivial) rfl rfl rfl rfl rfl rfl (w_burgageref3_write G1 (by omega) (by omega) (by intro h; rw [if_pos h] at h5b; omega) (by intro h; rw [if_pos h] at h6b; omega)) rfl (dist_of rfl) rfl rfl rfl rfl ⟨rfl,rfl,rfl⟩) rfl trivial rfl rfl ?_
    refine xy [(21,pB (!decide (rightR G1 = 0))),(23,PV.ref 2 0 none)] [0,1,2,3,4,5] rfl rfl rfl rfl g1 ?_
    refine x_run [(21,pB (!decide (rightR G1 = 0))),(23,PV.ref 2 0 none)] [0,1,2,3,4,5] [(2,oB false 1 enc8 (writeR G1))] [] [(2,oB false 1 enc8 (writeR G1))] [] [(2,oB false 1 enc8 (writeR G1)),(1,.obj [pI G1.fn,pI G1.at_,pI G1.count,pI G1.wAt,pI G1.sub,pS 1 false encBo G1.bits,pS 1 false enc16 G1.vals,p16 G1.and_,p16 G1.or_]),(0,.obj [pI 0,pI 0,pI 0,pI 0,pI 0,pNil,pNil,p16 0,p16 0])] rfl rfl rfl rfl rfl rfl (s_cvT tab_34 tab_9 rfl tab_5 rfl rfl (hM_ref0 (f := enc8) rfl rfl) ⟨rfl,rfl,rfl⟩) rfl ⟨rfl,trivial⟩ rfl rfl ?_
    refine xy [(21,pB (!decide (rightR G1 = 0))),(0,pS 1 cl_b enc8 b)] [0,1,2,3] rfl rfl rfl rfl g1 ?_
    refine x_run0 [(21,pB (!decide (rightR G1 = 0))),(0,pS 1 cl_b enc8 b)] [0,1,2,3] rfl rfl rfl rfl (s_move rfl ⟨rfl,rfl,rfl⟩) ?_
    refine xy [(21,pB (!decide (rightR G1 = 0))),(25,pS 1 cl_b enc8 b)] [0,1,2,3,7] rfl rfl rfl rfl g1 ?_
    refine x_run0 [(21,pB (!decide (rightR G1 = 0))),(25,pS 1 cl_b enc8 b)] [0,1,2,3,7] rfl rfl rfl rfl (s_cvT tab_34 tab_9 rfl tab_5 rfl rfl (hM_sl (f := enc8) rfl) ⟨rfl,rfl,rfl⟩) ?_
    refine xy [(21,pB (!decide (rightR G1 = 0))),(24,pT (writeR G1)),(26,pT b)] [0,1,2,3,4,5,6,7,8] rfl rfl rfl rfl g1 ?_
    refine x_run0 [(21,pB (!decide (rightR G1 = 0))),(24,pT (writeR G1)),(26,pT b)] [0,1,2,3,4,5,6,7,8] rfl rfl rfl rfl (s_netext (l := writeR G1) (m := b) rfl rfl ⟨rfl,rfl,rfl⟩) ?_
    refine d_op ?_
    refine x_run0 [(21,pB (!decide (rightR G1 = 0))),(27,pB (!decide (writeR G1 = b)))] [0,1,2,3,4,5,6,7,8,9] rfl rfl rfl rfl (s_pick_f rfl g1 rfl ⟨rfl,rfl,rfl⟩) ?_
    refine d_end ⟨by kernel_rfl, ?_⟩
    refine q_then ?_
    refine w_if rfl (fun c3 => ?_) (fun c3 => ?_)
    ·
     have c3_ := c3
     try simp only [sB] at c3
     rw [readW_3 (by omega) hb0 (by simpa using c2) hG1 (fun _ => by simpa using c3)] at hR
     refine w_seq ?_
     refine w_R ?_
     refine qo hnt rfl (s_build tab_27 rfl rfl (b_nil ?_))
     refine qo hnt rfl (s_store_ptr tab_27 rfl rfl rfl rfl rfl (Nat.le_of_ble_eq_true rfl) ?_)
     refine qa hnt rfl rfl ?_
     refine r_set [(2,PV.ptr 0 0),(3,pI 12)] [(0,.obj [pI 0,pI 0,pI 0,pI 0,pI 0,pNil,pNil,p16 0,p16 0]),(2,oB false 1 enc8 (writeR G1)),(1,.obj [pI G1.fn,pI G1.at_,pI G1.count,pI G1.wAt,pI G1.sub,pS 1 false encBo G1.bits,pS 1 false enc16 G1.vals,p16 G1.and_,p16 G1.or_])] 3 ⟨rfl,rfl,trivial⟩ rfl rfl ?_
     refine r_end ?_
     refine q_then ?_
     refine w_leO (n := 0) (ds := [pI R.1.fn,pI R.1.at_,pI R.1.count,pI R.1.wAt,pI R.1.sub,pS 1 false encBo R.1.bits,pS 1 false enc16 R.1.vals,p16 R.1.and_,p16 R.1.or_]) rfl ⟨le_of_eq (congrArg (fun z : Int => pI z) (show 0 = R.1.fn by first|(rw [hR]; done)|(rw [hR]; rfl))),le_of_eq (congrArg (fun z : Int => pI z) (show 0 = R.1.at_ by first|(rw [hR]; done)|(rw [hR]; rfl))),le_of_eq (congrArg (fun z : Int => pI z) (show 0 = R.1.count by first|(rw [hR]; done)|(rw [hR]; rfl))),le_of_eq (congrArg (fun z : Int => pI z) (show 0 = R.1.wAt by first|(rw [hR]; done)|(rw [hR]; rfl))),le_of_eq (congrArg (fun z : Int => pI z) (show 0 = R.1.sub by first|(rw [hR]; done)|(rw [hR]; rfl))),le_tr (le_nilS 1 false) (le_of_eq (congrArg (fun z => pS 1 false encBo z) (show [] = R.1.bits by first|(rw [hR]; done)|(rw [hR]; rfl)))),le_tr (le_nilS 1 false) (le_of_eq (congrArg (fun z => pS 1 false enc16 z) (show [] = R.1.vals by first|(rw [hR]; done)|(rw [hR]; rfl)))),le_of_eq (congrArg (fun z : UInt16 => p16 z) (show 0 = R.1.and_ by first|(rw [hR]; done)|(rw [hR]; rfl))),le_of_eq (congrArg (fun z : UInt16 => p16 z) (show 0 = R.1.or_ by first|(rw [hR]; done)|(rw [hR]; rfl))),trivial⟩ ?_
     refine w_le (s := 3) (y := pI R.2) rfl (le_of_eq (congrArg (fun z : Int => pI z) (show 12 = R.2 by first|(rw [hR]; done)|(rw [hR]; rfl)))) ?_
     refine w_ret ?_
     refine q_then_ret ?_
     exact fin_plain (ret_cell tab_27 (by decide) rfl rfl (Nat.le_of_ble_eq_true rfl) rfl (ret_tmp rfl ret_nil)) rfl rfl ⟨rfl,rfl,rfl⟩
    ·
     have c3_ := c3
     try simp only [sB] at c3
     rw [readW_4 (by omega) hb0 (by simpa using c2) hG1 hg0 (by simpa using c3)] at hR
     refine w_skip ?_
     refine q_then ?_
     refine w_seq ?_
     refine w_R ?_
     refine qo hnt rfl (s_load_ptr tab_27 rfl rfl rfl (Nat.le_of_ble_eq_true rfl) ?_)
     refine qo hnt rfl (s_store_ptr tab_27 rfl rfl rfl rfl rfl (Nat.le_of_ble_eq_true rfl) ?_)
     refine qa hnt rfl rfl ?_
     refine r_set [(2,PV.ptr 0 0),(3,pI 0)] [(0,.obj [pI G1.fn,pI G1.at_,pI G1.count,pI G1.wAt,pI G1.sub,pS 1 false encBo G1.bits,pS 1 false enc16 G1.vals,p16 G1.and_,p16 G1.or_]),(2,oB false 1 enc8 (writeR G1)),(1,.obj [pI G1.fn,pI G1.at_,pI G1.count,pI G1.wAt,pI G1.sub,pS 1 false encBo G1.bits,pS 1 false enc16 G1.vals,p16 G1.and_,p16 G1.or_])] 3 ⟨rfl,rfl,trivial⟩ rfl rfl ?_
     refine r_end ?_
     refine q_then ?_
     refine w_leO (n := 0) (ds := [pI R.1.fn,pI R.1.at_,pI R.1.count,pI R.1.wAt,pI R.1.sub,pS 1 false encBo R.1.bits,pS 1 false enc16 R.1.vals,p16 R.1.and_,p16 R.1.or_]) rfl ⟨le_of_eq (congrArg (fun z : Int => pI z) (show G1.fn = R.1.fn by first|(rw [hR]; done)|(rw [hR]; rfl))),le_of_eq (congrArg (fun z : Int => pI z) (show G1.at_ = R.1.at_ by first|(rw [hR]; done)|(rw [hR]; rfl))),le_of_eq (congrArg (fun z : Int => pI z) (show G1.count = R.1.count by first|(rw [hR]; done)|(rw [hR]; rfl))),le_of_eq (congrArg (fun z : Int => pI z) (show G1.wAt = R.1.wAt by first|(rw [hR]; done)|(rw [hR]; rfl))),le_of_eq (congrArg (fun z : Int => pI z) (show G1.sub = R.1.sub by first|(rw [hR]; done)|(rw [hR]; rfl))),le_of_eq (congrArg (fun z => pS 1 false encBo z) (show G1.bits = R.1.bits by first|(rw [hR]; done)|(rw [hR]; rfl))),le_of_eq (congrArg (fun z => pS 1 false enc16 z) (show G1.vals = R.1.vals by first|(rw [hR]; done)|(rw [hR]; rfl))),le_of_eq (congrArg (fun z : UInt16 => p16 z) (show G1.and_ = R.1.and_ by first|(rw [hR]; done)|(rw [hR]; rfl))),le_of_eq (congrArg (fun z : UInt16 => p16 z) (show G1.or_ = R.1.or_ by first|(rw [hR]; done)|(rw [hR]; rfl))),trivial⟩ ?_
     refine w_le (s := 3) (y := pI R.2) rfl (le_of_eq (congrArg (fun z : Int => pI z) (show 0 = R.2 by first|(rw [hR]; done)|(rw [hR]; rfl)))) ?_
     refine w_ret ?_
     exact fin_plain (ret_cell tab_27 (by decide) rfl rfl (Nat.le_of_ble_eq_true rfl) rfl (ret_tmp rfl ret_nil)) rfl rfl ⟨rfl,rfl,rfl⟩
   ·
    have g1' := g1
    try simp only [sB] at g1'
    have hg9 : ¬ rightR G1 = 0 := by first|exact g1'|simpa using g1
    rw [readW_3 (by omega) hb0 (by simpa using c2) hG1 (fun h => absurd h hg9)] at hR
    refine xn [(21,pB (!decide (rightR G1 = 0))),(22,undefP)] [0,1,2,3,4] rfl rfl rfl rfl g1 ?_
    refine xn [(21,pB (!decide (rightR G1 = 0))),(23,undefP)] [0,1,2,3,4,5] rfl rfl rfl rfl g1 ?_
    refine xn [(21,pB (!decide (rightR G1 = 0))),(0,pS 1 cl_b enc8 b)] [0,1,2,3] rfl rfl rfl rfl g1 ?_
    refine xn [(21,pB (!decide (rightR G1 = 0))),(25,undefP)] [0,1,2,3,7] rfl rfl rfl rfl g1 ?_
    refine xn [(21,pB (!decide (rightR G1 = 0))),(24,undefP),(26,undefP)] [0,1,2,3,4,5,6,7,8] rfl rfl rfl rfl g1 ?_
    refine d_op ?_
    refine x_run0 [(21,pB (!decide (rightR G1 = 0))),(27,undefP)] [0,1,2,3,4,5,6,7,8,9] rfl rfl rfl rfl (s_pick_t rfl g1 rfl ⟨rfl,rfl,rfl⟩) ?_
    refine d_end ⟨by kernel_rfl, ?_⟩
    refine q_then ?_
    refine w_if rfl (fun _ => ?_) (fun e => absurd e (by decide))
    refine w_seq ?_
    refine w_R ?_
    refine qo hnt rfl (s_build tab_27 rfl rfl (b_nil ?_))
    refine qo hnt rfl (s_store_ptr tab_27 rfl rfl rfl rfl rfl (Nat.le_of_ble_eq_true rfl) ?_)
    refine qa hnt rfl rfl ?_
    refine r_set [(2,PV.ptr 0 0),(3,pI 12)] [(0,.obj [pI 0,pI 0,pI 0,pI 0,pI 0,pNil,pNil,p16 0,p16 0]),(1,.obj [pI G1.fn,pI G1.at_,pI G1.count,pI G1.wAt,pI G1.sub,pS 1 false encBo G1.bits,pS 1 false enc16 G1.vals,p16 G1.and_,p16 G1.or_])] 2 ⟨rfl,rfl,trivial⟩ rfl rfl ?_
    refine r_end ?_
    refine q_then ?_
    refine w_leO (n := 0) (ds := [pI R.1.fn,pI R.1.at_,pI R.1.count,pI R.1.wAt,pI R.1.sub,pS 1 false encBo R.1.bits,pS 1 false enc16 R.1.vals,p16 R.1.and_,p16 R.1.or_]) rfl ⟨le_of_eq (congrArg (fun z : Int => pI z) (show 0 = R.1.fn by first|(rw [hR]; done)|(rw [hR]; rfl))),le_of_eq (congrArg (fun z : Int => pI z) (show 0 = R.1.at_ by first|(rw [hR]; done)|(rw [hR]; rfl))),le_of_eq (congrArg (fun z : Int => pI z) (show 0 = R.1.count by first|(rw [hR]; done)|(rw [hR]; rfl))),le_of_eq (congrArg (fun z : Int => pI z) (show 0 = R.1.wAt by first|(rw [hR]; done)|(rw [hR]; rfl))),le_of_eq (congrArg (fun z : Int => pI z) (show 0 = R.1.sub by first|(rw [hR]; done)|(rw [hR]; rfl))),le_tr (le_nilS 1 false) (le_of_eq (congrArg (fun z => pS 1 false encBo z) (show [] = R.1.bits by first|(rw [hR]; done)|(rw [hR]; rfl)))),le_tr (le_nilS 1 false) (le_of_eq (congrArg (fun z => pS 1 false enc16 z) (show [] = R.1.vals by first|(rw [hR]; done)|(rw [hR]; rfl)))),le_of_eq (congrArg (fun z : UInt16 => p16 z) (show 0 = R.1.and_ by first|(rw [hR]; done)|(rw [hR]; rfl))),le_of_eq (congrArg (fun z : UInt16 => p16 z) (show 0 = R.1.or_ by first|(rw [hR]; done)|(rw [hR]; rfl))),trivial⟩ ?_
    refine w_le (s := 3) (y := pI R.2) rfl (le_of_eq (congrArg (fun z : Int => pI z) (show 12 = R.2 by first|(rw [hR]; done)|(rw [hR]; rfl)))) ?_
    refine w_ret ?_
    refine q_then_ret ?_
    exact fin_plain (ret_cell tab_27 (by decide) rfl rfl (Nat.le_of_ble_eq_true rfl) rfl (ret_tmp rfl ret_nil)) rfl rfl ⟨rfl,rfl,rfl⟩
theorem w_pdu_guess (b : List UInt8) (cl_b : Bool) (G : TRequest) (hG : G = guessP b) (hb : b.length ≤ 140737488351232) (h1 : 1 ≤ b.length) :
    T Try.prog 51 [pS 1 cl_b enc8 b] 0 [] (Ret (PV.f (eRequest G)) 0 []) := by
 refine t_fun tabOk (n := 93) (rs := [.cell 2 27]) Try.func51 rfl rfl rfl rfl (Nat.le_of_ble_eq_true rfl) ?_
 intro c hnt hk
 refine w_seq ?_
 refine w_R ?_
 refine qo hnt rfl (s_alloc tab_27 ?_)
 refine r_set [(0,pS 1 cl_b enc8 b),(2,PV.ptr 0 0)] [(0,.obj [pI 0,pI 0,pI 0,pI 0,pI 0,pNil,pNil,p16 0,p16 0])] 1 ⟨rfl,rfl,trivial⟩ rfl rfl ?_
 refine r_end ?_
 refine q_then ?_
 refine w_seq ?_
 refine w_R ?_
 refine qm hnt rfl rfl ?_
 obtain ⟨e1,he1⟩ := get_of_lt b (i := 0) (by omega)
 refine qo hnt rfl (s_iaM (q := 0) (b := e1) (f := enc8) tab_34 rfl tab_5 rfl rfl (by omega) rfl he1 ?_)
 refine qo hnt rfl (s_load_ro1 tab_5 rfl rfl rfl rfl ?_)
 refine qo hnt rfl (s_cvN (a := UInt8.toNat e1) tab_5 tab_3 rfl rfl rfl (by omega) (by have := lt8 e1; omega) ?_)
 refine qo hnt rfl (s_build tab_27 rfl rfl (b_cons rfl tab_3 rfl rfl rfl (Nat.le_of_ble_eq_true rfl) (b_nil ?_)))
 refine qo hnt rfl (s_alloc tab_27 ?_)
 refine qo hnt rfl (s_store_ptr tab_27 rfl rfl rfl rfl rfl (Nat.le_of_ble_eq_true rfl) ?_)
 refine r_set [(0,pS 1 cl_b enc8 b),(2,PV.ptr 0 0),(3,PV.ptr 1 0)] [(1,.obj [pN (UInt8.toNat e1),pI 0,pI 0,pI 0,pI 0,pNil,pNil,p16 0,p16 0]),(0,.obj [pI 0,pI 0,pI 0,pI 0,pI 0,pNil,pNil,p16 0,p16 0])] 2 ⟨rfl,rfl,rfl,trivial⟩ rfl rfl ?_
 refine r_end ?_
 refine q_then ?_
 refine w_seq ?_
 refine w_seq ?_
 have hb0 : b.getD 0 0 = e1 := by rw [List.getD_eq_getElem?_getD,he1]; rfl
 refine w_R ?_
 refine qo hnt rfl (s_fa_ptr tab_27 rfl rfl tab_3 (by decide) rfl ?_)
 refine qo hnt rfl (s_load_ptr1 tab_3 rfl rfl rfl rfl rfl ?_)
 refine r_end ?_
 refine q_then ?_
 refine w_block ?_
 refine w_seq ?_
 refine w_R ?_
 refine qo hnt rfl (s_eql rfl rfl ?_)
 refine qa hnt rfl rfl ?_
 refine r_end ?_
 refine q_then ?_
 refine w_if rfl (fun c1 => ?_) (fun c1 => ?_)
 ·
  have c1_ := c1
  try simp only [sB] at c1
  rw [guessP_17 hb0 (by omega)] at hG
  refine w_seq ?_
  refine w_R ?_
  refine qo hnt rfl (s_load_ptr tab_27 rfl rfl rfl (Nat.le_of_ble_eq_true rfl) ?_)
  refine qo hnt rfl (s_store_ptr tab_27 rfl rfl rfl rfl rfl (Nat.le_of_ble_eq_true rfl) ?_)
  refine r_set [(2,PV.ptr 0 0)] [(0,.obj [pN (UInt8.toNat e1),pI 0,pI 0,pI 0,pI 0,pNil,pNil,p16 0,p16 0]),(1,.obj [pN (UInt8.toNat e1),pI 0,pI 0,pI 0,pI 0,pNil,pNil,p16 0,p16 0])] 2 ⟨rfl,trivial⟩ rfl rfl ?_
  refine r_end ?_
  refine q_then ?_
  refine w_leO (n := 0) (ds := [pI G.fn,pI G.at_,pI G.count,pI G.wAt,pI G.sub,pS 1 false encBo G.bits,pS 1 false enc16 G.vals,p16 G.and_,p16 G.or_]) rfl ⟨le_of_eq (congrArg (fun z : Int => pI z) (show ((UInt8.toNat e1 : Nat) : Int) = G.fn by first|(rw [hG]; done)|(rw [hG]; rfl)|(rw [hG]; simp [*]; done))),le_of_eq (congrArg (fun z : Int => pI z) (show 0 = G.at_ by first|(rw [hG]; done)|(rw [hG]; rfl)|(rw [hG]; simp [*]; done))),le_of_eq (congrArg (fun z : Int => pI z) (show 0 = G.count by first|(rw [hG]; done)|(rw [hG]; rfl)|(rw [hG]; simp [*]; done))),le_of_eq (congrArg (fun z : Int => pI z) (show 0 = G.wAt by first|(rw [hG]; done)|(rw [hG]; rfl)|(rw [hG]; simp [*]; done))),le_of_eq (congrArg (fun z : Int => pI z) (show 0 = G.sub by first|(rw [hG]; done)|(rw [hG]; rfl)|(rw [hG]; simp [*]; done))),le_tr (le_nilS 1 false) (le_of_eq (congrArg (fun z => pS 1 false encBo z) (show [] = G.bits by first|(rw [hG]; done)|(rw [hG]; rfl)|(rw [hG]; simp [*]; done)))),le_tr (le_nilS 1 false) (le_of_eq (congrArg (fun z => pS 1 false enc16 z) (show [] = G.vals by first|(rw [hG]; done)|(rw [hG]; rfl)|(rw [hG]; simp [*]; done)))),le_of_eq (congrArg (fun z : UInt16 => p16 z) (show 0 = G.and_ by first|(rw [hG]; done)|(rw [hG]; rfl)|(rw [hG]; simp [*]; done))),le_of_eq (congrArg (fun z : UInt16 => p16 z) (show 0 = G.or_ by first|(rw [hG]; done)|(rw [hG]; rfl)|(rw [hG]; simp [*]; done))),trivial⟩ ?_
  refine w_ret ?_
  refine q_block_ret ?_
  refine q_then_ret ?_
  exact fin_plain (ret_cell tab_27 (by decide) rfl rfl (Nat.le_of_ble_eq_true rfl) rfl ret_nil) rfl rfl ⟨rfl,rfl,rfl⟩
 ·
  have c1_ := c1
  try simp only [sB] at c1
  refine w_seq ?_
  refine w_R ?_
  refine qo hnt rfl (s_eql rfl rfl ?_)
  refine qa hnt rfl rfl ?_
  refine r_end ?_
  refine q_then ?_
  refine w_if rfl (fun c2 => ?_) (fun c2 => ?_)
  ·
   have c2_ := c2
   try simp only [sB] at c2
   rw [guessP_8 hb0 (by omega)] at hG
   refine w_seq ?_
   refine w_R ?_
   refine qm hnt rfl rfl ?_
   refine qo hnt rfl (s_callF rfl rfl rfl (w_pdu_num b cl_b 0 (by first|omega|assumption|(simp; omega)|decide|(simp; done)) (by first|omega|assumption|(simp; omega)|decide|(simp; done))) rfl ?_)
   refine qm hnt rfl rfl ?_
   refine qo hnt rfl (s_callF rfl rfl rfl (w_pdu_words b cl_b 3 (by first|omega|assumption|(simp; omega)|decide|(simp; done)) (by first|omega|assumption|(simp; omega)|decide|(simp; done))) rfl ?_)
   refine qo hnt rfl (s_fa_ptr tab_27 rfl rfl tab_3 (by decide) rfl ?_)
   refine qo hnt rfl (s_store_ptr tab_3 rfl rfl rfl rfl rfl (Nat.le_of_ble_eq_true rfl) ?_)
   refine qo hnt rfl (s_fa_ptr tab_27 rfl rfl tab_24 (by decide) rfl ?_)
   refine qo hnt rfl (s_store_ptr tab_24 rfl rfl rfl rfl rfl (Nat.le_of_ble_eq_true rfl) ?_)
   refine r_set [(2,PV.ptr 0 0),(3,PV.ptr 1 0)] [(1,.obj [pN (UInt8.toNat e1),pI 0,pI 0,pI 0,pI (getV b (1 + 2 * (0 : Int))),pNil,pS 1 false enc16 (wordsAtP b 3),p16 0,p16 0]),(0,.obj [pI 0,pI 0,pI 0,pI 0,pI 0,pNil,pNil,p16 0,p16 0])] 2 ⟨rfl,rfl,trivial⟩ rfl rfl ?_
   refine r_end ?_
   refine q_then ?_
   refine w_seq ?_
   refine w_R ?_
   refine qo hnt rfl (s_load_ptr tab_27 rfl rfl rfl (Nat.le_of_ble_eq_true rfl) ?_)
   refine qo hnt rfl (s_store_ptr tab_27 rfl rfl rfl rfl rfl (Nat.le_of_ble_eq_true rfl) ?_)
   refine r_set [(2,PV.ptr 0 0)] [(0,.obj [pN (UInt8.toNat e1),pI 0,pI 0,pI 0,pI (getV b (1 + 2 * (0 : Int))),pNil,pS 1 false enc16 (wordsAtP b 3),p16 0,p16 0]),(1,.obj [pN (UInt8.toNat e1),pI 0,pI 0,pI 0,pI (getV b (1 + 2 * (0 : Int))),pNil,pS 1 false enc16 (wordsAtP b 3),p16 0,p16 0])] 2 ⟨rfl,trivial⟩ rfl rfl ?_
   refine r_end ?_
   refine q_then ?_
   refine w_leO (n := 0) (ds := [pI G.fn,pI G.at_,pI G.count,pI G.wAt,pI G.sub,pS 1 false encBo G.bits,pS 1 false enc16 G.vals,p16 G.and_,p16 G.or_]) rfl ⟨le_of_eq (congrArg (fun z : Int => pI z) (show ((UInt8.toNat e1 : Nat) : Int) = G.fn by first|(rw [hG]; done)|(rw [hG]; rfl)|(rw [hG]; simp [*]; done))),le_of_eq (congrArg (fun z : Int => pI z) (show 0 = G.at_ by first|(rw [hG]; done)|(rw [hG]; rfl)|(rw [hG]; simp [*]; done))),le_of_eq (congrArg (fun z : Int => pI z) (show 0 = G.count by first|(rw [hG]; done)|(rw [hG]; rfl)|(rw [hG]; simp [*]; done))),le_of_eq (congrArg (fun z : Int => pI z) (show 0 = G.wAt by first|(rw [hG]; done)|(rw [hG]; rfl)|(rw [hG]; simp [*]; done))),le_of_eq (congrArg (fun z : Int => pI z) (show (getV b (1 + 2 * (0 : Int))) = G.sub by first|(rw [hG]; done)|(rw [hG]; rfl)|(rw [hG]; simp [*]; done))),le_tr (le_nilS 1 false) (le_of_eq (congrArg (fun z => pS 1 false encBo z) (show [] = G.bits by first|(rw [hG]; done)|(rw [hG]; rfl)|(rw [hG]; simp [*]; done)))),le_of_eq (congrArg (fun z => pS 1 false enc16 z) (show (wordsAtP b 3) = G.vals by first|(rw [hG]; done)|(rw [hG]; rfl)|(rw [hG]; simp [*]; done))),le_of_eq (congrArg (fun z : UInt16 => p16 z) (show 0 = G.and_ by first|(rw [hG]; done)|(rw [hG]; rfl)|(rw [hG]; simp [*]; done))),le_of_eq (congrArg (fun z : UInt16 => p16 z) (show 0 = G.or_ by first|(rw [hG]; done)|(rw [hG]; rfl)|(rw [hG]; simp [*]; done))),trivial⟩ ?_
   refine w_ret ?_
   refine q_block_ret ?_
   refine q_then_ret ?_
   exact fin_plain (ret_cell tab_27 (by decide) rfl rfl (Nat.le_of_ble_eq_true rfl) rfl ret_nil) rfl rfl ⟨rfl,rfl,rfl⟩
  ·
   have c2_ := c2
   try simp only [sB] at c2
   refine w_skip ?_
   refine q_block ?_
   refine q_then ?_
   refine w_seq ?_
   refine w_R ?_
   refine qm hnt rfl rfl ?_
   refine qo hnt rfl (s_callF rfl rfl rfl (w_pdu_num b cl_b 0 (by first|omega|assumption|(simp; omega)|decide|(simp; done)) (by first|omega|assumption|(simp; omega)|decide|(simp; done))) rfl ?_)
   refine qo hnt rfl (s_fa_ptr tab_27 rfl rfl tab_3 (by decide) rfl ?_)
   refine qo hnt rfl (s_store_ptr tab_3 rfl rfl rfl rfl rfl (Nat.le_of_ble_eq_true rfl) ?_)
   refine r_set [(0,pS 1 cl_b enc8 b),(2,PV.ptr 0 0),(3,PV.ptr 1 0)] [(1,.obj [pN (UInt8.toNat e1),pI (getV b (1 + 2 * (0 : Int))),pI 0,pI 0,pI 0,pNil,pNil,p16 0,p16 0]),(0,.obj [pI 0,pI 0,pI 0,pI 0,pI 0,pNil,pNil,p16 0,p16 0])] 2 ⟨rfl,rfl,rfl,trivial⟩ rfl rfl ?_
   refine r_end ?_
   refine q_then ?_
   refine w_seq ?_
   refine w_seq ?_
   refine w_R ?_
   refine qo hnt rfl (s_fa_ptr tab_27 rfl rfl tab_3 (by decide) rfl ?_)
   refine qo hnt rfl (s_load_ptr1 tab_3 rfl rfl rfl rfl rfl ?_)
   refine r_end ?_
   refine q_then ?_
   refine w_block ?_
   refine w_seq ?_
   refine w_R ?_
   refine qo hnt rfl (s_eql rfl rfl ?_)
   refine qa hnt rfl rfl ?_
   refine r_end ?_
   refine q_then ?_
   refine w_if rfl (fun c3 => ?_) (fun c3 => ?_)
   ·
    have c3_ := c3
    try simp only [sB] at c3
    rw [guessP_5 hb0 (by omega)] at hG
    refine w_R ?_
    refine qm hnt rfl rfl ?_
    refine qo hnt rfl (s_callF rfl rfl rfl (w_pdu_num b cl_b 1 (by first|omega|assumption|(simp; omega)|decide|(simp; done)) (by first|omega|assumption|(simp; omega)|decide|(simp; done))) rfl ?_)
    refine qo hnt rfl (s_eql rfl rfl ?_)
    refine qo hnt rfl (s_mkM (f := encBo) [decide (getV b (1 + 2 * (1 : Int)) = 65280)] tab_23 rfl tab_4 ⟨rfl,by decide⟩ (by decide) rfl rfl rfl rfl ?_)
    refine qo hnt rfl (s_fa_ptr tab_27 rfl rfl tab_23 (by decide) rfl ?_)
    refine qo hnt rfl (s_store_ptr tab_23 rfl rfl rfl rfl rfl (Nat.le_of_ble_eq_true rfl) ?_)
    refine r_set [(2,PV.ptr 0 0),(3,PV.ptr 1 0)] [(1,.obj [pN (UInt8.toNat e1),pI (getV b (1 + 2 * (0 : Int))),pI 0,pI 0,pI 0,PV.ref 2 0 none,pNil,p16 0,p16 0]),(2,oB true 1 encBo [decide (getV b (1 + 2 * (1 : Int)) = 65280)]),(0,.obj [pI 0,pI 0,pI 0,pI 0,pI 0,pNil,pNil,p16 0,p16 0])] 3 ⟨rfl,rfl,trivial⟩ rfl rfl ?_
    refine r_end ?_
    refine q_block ?_
    refine q_then ?_
    refine w_seq ?_
    refine w_R ?_
    refine qo hnt rfl (s_load_ptr tab_27 rfl rfl rfl (Nat.le_of_ble_eq_true rfl) ?_)
    refine qo hnt rfl (s_store_ptr tab_27 rfl rfl rfl rfl rfl (Nat.le_of_ble_eq_true rfl) ?_)
    refine r_set [(2,PV.ptr 0 0)] [(0,.obj [pN (UInt8.toNat e1),pI (getV b (1 + 2 * (0 : Int))),pI 0,pI 0,pI 0,PV.ref 2 0 none,pNil,p16 0,p16 0]),(1,.obj [pN (UInt8.toNat e1),pI (getV b (1 + 2 * (0 : Int))),pI 0,pI 0,pI 0,PV.ref 2 0 none,pNil,p16 0,p16 0]),(2,oB true 1 encBo [decide (getV b (1 + 2 * (1 : Int)) = 65280)])] 3 ⟨rfl,trivial⟩ rfl rfl ?_
    refine r_end ?_
    refine q_then ?_
    refine w_frzC (n := 0) (j := 5) rfl rfl rfl rfl ?_
    refine w_leO (n := 0) (ds := [pN (UInt8.toNat e1),pI (getV b (1 + 2 * (0 : Int))),pI 0,pI 0,pI 0,pS 1 false encBo G.bits,pNil,p16 0,p16 0]) rfl ⟨le_refl _,le_refl _,le_refl _,le_refl _,le_refl _,le_of_eq (congrArg (fun z => pS 1 false encBo z) (show [decide (getV b (1 + 2 * (1 : Int)) = 65280)] = G.bits by first|(rw [hG]; done)|(rw [hG]; rfl)|(rw [hG]; simp [*]; done))),le_refl _,le_refl _,le_refl _,trivial⟩ ?_
    refine w_leO (n := 0) (ds := [pI G.fn,pI G.at_,pI G.count,pI G.wAt,pI G.sub,pS 1 false encBo G.bits,pS 1 false enc16 G.vals,p16 G.and_,p16 G.or_]) rfl ⟨le_of_eq (congrArg (fun z : Int => pI z) (show ((UInt8.toNat e1 : Nat) : Int) = G.fn by first|(rw [hG]; done)|(rw [hG]; rfl)|(rw [hG]; simp [*]; done))),le_of_eq (congrArg (fun z : Int => pI z) (show (getV b (1 + 2 * (0 : Int))) = G.at_ by first|(rw [hG]; done)|(rw [hG]; rfl)|(rw [hG]; simp [*]; done))),le_of_eq (congrArg (fun z : Int => pI z) (show 0 = G.count by first|(rw [hG]; done)|(rw [hG]; rfl)|(rw [hG]; simp [*]; done))),le_of_eq (congrArg (fun z : Int => pI z) (show 0 = G.wAt by first|(rw [hG]; done)|(rw [hG]; rfl)|(rw [hG]; simp [*]; done))),le_of_eq (congrArg (fun z : Int => pI z) (show 0 = G.sub by first|(rw [hG]; done)|(rw [hG]; rfl)|(rw [hG]; simp [*]; done))),le_refl _,le_tr (le_nilS 1 false) (le_of_eq (congrArg (fun z => pS 1 false enc16 z) (show [] = G.vals by first|(rw [hG]; done)|(rw [hG]; rfl)|(rw [hG]; simp [*]; done)))),le_of_eq (congrArg (fun z : UInt16 => p16 z) (show 0 = G.and_ by first|(rw [hG]; done)|(rw [hG]; rfl)|(rw [hG]; simp [*]; done))),le_of_eq (congrArg (fun z : UInt16 => p16 z) (show 0 = G.or_ by first|(rw [hG]; done)|(rw [hG]; rfl)|(rw [hG]; simp [*]; done))),trivial⟩ ?_
    refine w_ret ?_
    exact fin_plain (ret_cell tab_27 (by decide) rfl rfl (Nat.le_of_ble_eq_true rfl) rfl ret_nil) rfl rfl ⟨rfl,rfl,rfl⟩
   ·
    have c3_ := c3
    try simp only [sB] at c3
    refine w_seq ?_
    refine w_R ?_
    refine qo hnt rfl (s_eql rfl rfl ?_)
    refine qa hnt rfl rfl ?_
    refine r_end ?_
    refine q_then ?_
    refine w_if rfl (fun c4 => ?_) (fun c4 => ?_)
    ·
     have c4_ := c4
     try simp only [sB] at c4
     rw [guessP_6 hb0 (by omega)] at hG
     refine w_R ?_
     refine qm hnt rfl rfl ?_
     refine qo hnt rfl (s_callF rfl rfl rfl (w_pdu_words b cl_b 3 (by first|omega|assumption|(simp; omega)|decide|(simp; done)) (by first|omega|assumption|(simp; omega)|decide|(simp; done))) rfl ?_)
     refine qo hnt rfl (s_fa_ptr tab_27 rfl rfl tab_24 (by decide) rfl ?_)
     refine qo hnt rfl (s_store_ptr tab_24 rfl rfl rfl rfl rfl (Nat.le_of_ble_eq_true rfl) ?_)
     refine r_set [(2,PV.ptr 0 0),(3,PV.ptr 1 0)] [(1,.obj [pN (UInt8.toNat e1),pI (getV b (1 + 2 * (0 : Int))),pI 0,pI 0,pI 0,pNil,pS 1 false enc16 (wordsAtP b 3),p16 0,p16 0]),(0,.obj [pI 0,pI 0,pI 0,pI 0,pI 0,pNil,pNil,p16 0,p16 0])] 2 ⟨rfl,rfl,trivial⟩ rfl rfl ?_
     refine r_end ?_
     refine q_block ?_
     refine q_then ?_
     refine w_seq ?_
     refine w_R ?_
     refine qo hnt rfl (s_load_ptr tab_27 rfl rfl rfl (Nat.le_of_ble_eq_true rfl) ?_)
     refine qo hnt rfl (s_store_ptr tab_27 rfl rfl rfl rfl rfl (Nat.le_of_ble_eq_true rfl) ?_)
     refine r_set [(2,PV.ptr 0 0)] [(0,.obj [pN (UInt8.toNat e1),pI (getV b (1 + 2 * (0 : Int))),pI 0,pI 0,pI 0,pNil,pS 1 false enc16 (wordsAtP b 3),p16 0,p16 0]),(1,.obj [pN (UInt8.toNat e1),pI (getV b (1 + 2 * (0 : Int))),pI 0,pI 0,pI 0,pNil,pS 1 false enc16 (wordsAtP b 3),p16 0,p16 0])] 2 ⟨rfl,trivial⟩ rfl rfl ?_
     refine r_end ?_
     refine q_then ?_
     refine w_leO (n := 0) (ds := [pI G.fn,pI G.at_,pI G.count,pI G.wAt,pI G.sub,pS 1 false encBo G.bits,pS 1 false enc16 G.vals,p16 G.and_,p16 G.or_]) rfl ⟨le_of_eq (congrArg (fun z : Int => pI z) (show ((UInt8.toNat e1 : Nat) : Int) = G.fn by first|(rw [hG]; done)|(rw [hG]; rfl)|(rw [hG]; simp [*]; done))),le_of_eq (congrArg (fun z : Int => pI z) (show (getV b (1 + 2 * (0 : Int))) = G.at_ by first|(rw [hG]; done)|(rw [hG]; rfl)|(rw [hG]; simp [*]; done))),le_of_eq (congrArg (fun z : Int => pI z) (show 0 = G.count by first|(rw [hG]; done)|(rw [hG]; rfl)|(rw [hG]; simp [*]; done))),le_of_eq (congrArg (fun z : Int => pI z) (show 0 = G.wAt by first|(rw [hG]; done)|(rw [hG]; rfl)|(rw [hG]; simp [*]; done))),le_of_eq (congrArg (fun z : Int => pI z) (show 0 = G.sub by first|(rw [hG]; done)|(rw [hG]; rfl)|(rw [hG]; simp [*]; done))),le_tr (le_nilS 1 false) (le_of_eq (congrArg (fun z => pS 1 false encBo z) (show [] = G.bits by first|(rw [hG]; done)|(rw [hG]; rfl)|(rw [hG]; simp [*]; done)))),le_of_eq (congrArg (fun z => pS 1 false enc16 z) (show (wordsAtP b 3) = G.vals by first|(rw [hG]; done)|(rw [hG]; rfl)|(rw [hG]; simp [*]; done))),le_of_eq (congrArg (fun z : UInt16 => p16 z) (show 0 = G.and_ by first|(rw [hG]; done)|(rw [hG]; rfl)|(rw [hG]; simp [*]; done))),le_of_eq (congrArg (fun z : UInt16 => p16 z) (show 0 = G.or_ by first|(rw [hG]; done)|(rw [hG]; rfl)|(rw [hG]; simp [*]; done))),trivial⟩ ?_
     refine w_ret ?_
     exact fin_plain (ret_cell tab_27 (by decide) rfl rfl (Nat.le_of_ble_eq_true rfl) rfl ret_nil) rfl rfl ⟨rfl,rfl,rfl⟩
    ·
     have c4_ := c4
     try simp only [sB] at c4
     refine w_seq ?_
     refine w_R ?_
     refine qo hnt rfl (s_eql rfl rfl ?_)
     refine qa hnt rfl rfl ?_
     refine r_end ?_
     refine q_then ?_
     refine w_if rfl (fun c5 => ?_) (fun c5 => ?_)
     ·
      have c5_ := c5
      try simp only [sB] at c5
      rw [guessP_22 hb0 (by omega)] at hG
      refine w_R ?_
      refine qm hnt rfl rfl ?_
      refine qo hnt rfl (s_callF rfl rfl rfl (w_pdu_num b cl_b 1 (by first|omega|assumption|(simp; omega)|decide|(simp; done)) (by first|omega|assumption|(simp; omega)|decide|(simp; done))) rfl ?_)
      refine qo hnt rfl (s_cv16 tab_3 tab_25 rfl rfl rfl ?_)
      refine qm hnt rfl rfl ?_
      refine qo hnt rfl (s_callF rfl rfl rfl (w_pdu_num b cl_b 2 (by first|omega|assumption|(simp; omega)|decide|(simp; done)) (by first|omega|assumption|(simp; omega)|decide|(simp; done))) rfl ?_)
      refine qo hnt rfl (s_cv16 tab_3 tab_25 rfl rfl rfl ?_)
      refine qo hnt rfl (s_fa_ptr tab_27 rfl rfl tab_25 (by decide) rfl ?_)
      refine qo hnt rfl (s_store_ptr tab_25 rfl rfl rfl rfl rfl (Nat.le_of_ble_eq_true rfl) ?_)
      refine qo hnt rfl (s_fa_ptr tab_27 rfl rfl tab_25 (by decide) rfl ?_)
      refine qo hnt rfl (s_store_ptr tab_25 rfl rfl rfl rfl rfl (Nat.le_of_ble_eq_true rfl) ?_)
      refine r_set [(2,PV.ptr 0 0),(3,PV.ptr 1 0)] [(1,.obj [pN (UInt8.toNat e1),pI (getV b (1 + 2 * (0 : Int))),pI 0,pI 0,pI 0,pNil,pNil,p16 (u16I (getV b (1 + 2 * (1 : Int)))),p16 (u16I (getV b (1 + 2 * (2 : Int))))]),(0,.obj [pI 0,pI 0,pI 0,pI 0,pI 0,pNil,pNil,p16 0,p16 0])] 2 ⟨rfl,rfl,trivial⟩ rfl rfl ?_
      refine r_end ?_
      refine q_block ?_
      refine q_then ?_
      refine w_seq ?_
      refine w_R ?_
      refine qo hnt rfl (s_load_ptr tab_27 rfl rfl rfl (Nat.le_of_ble_eq_true rfl) ?_)
      refine qo hnt rfl (s_store_ptr tab_27 rfl rfl rfl rfl rfl (Nat.le_of_ble_eq_true rfl) ?_)
      refine r_set [(2,PV.ptr 0 0)] [(0,.obj [pN (UInt8.toNat e1),pI (getV b (1 + 2 * (0 : Int))),pI 0,pI 0,pI 0,pNil,pNil,p16 (u16I (getV b (1 + 2 * (1 : Int)))),p16 (u16I (getV b (1 + 2 * (2 : Int))))]),(1,.obj [pN (UInt8.toNat e1),pI (getV b (1 + 2 * (0 : Int))),pI 0,pI 0,pI 0,pNil,pNil,p16 (u16I (getV b (1 + 2 * (1 : Int)))),p16 (u16I (getV b (1 + 2 * (2 : Int))))])] 2 ⟨rfl,trivial⟩ rfl rfl ?_
      refine r_end ?_
      refine q_then ?_
      refine w_leO (n := 0) (ds := [pI G.fn,pI G.at_,pI G.count,pI G.wAt,pI G.sub,pS 1 false encBo G.bits,pS 1 false enc16 G.vals,p16 G.and_,p16 G.or_]) rfl ⟨le_of_eq (congrArg (fun z : Int => pI z) (show ((UInt8.toNat e1 : Nat) : Int) = G.fn by first|(rw [hG]; done)|(rw [hG]; rfl)|(rw [hG]; simp [*]; done))),le_of_eq (congrArg (fun z : Int => pI z) (show (getV b (1 + 2 * (0 : Int))) = G.at_ by first|(rw [hG]; done)|(rw [hG]; rfl)|(rw [hG]; simp [*]; done))),le_of_eq (congrArg (fun z : Int => pI z) (show 0 = G.count by first|(rw [hG]; done)|(rw [hG]; rfl)|(rw [hG]; simp [*]; done))),le_of_eq (congrArg (fun z : Int => pI z) (show 0 = G.wAt by first|(rw [hG]; done)|(rw [hG]; rfl)|(rw [hG]; simp [*]; done))),le_of_eq (congrArg (fun z : Int => pI z) (show 0 = G.sub by first|(rw [hG]; done)|(rw [hG]; rfl)|(rw [hG]; simp [*]; done))),le_tr (le_nilS 1 false) (le_of_eq (congrArg (fun z => pS 1 false encBo z) (show [] = G.bits by first|(rw [hG]; done)|(rw [hG]; rfl)|(rw [hG]; simp [*]; done)))),le_tr (le_nilS 1 false) (le_of_eq (congrArg (fun z => pS 1 false enc16 z) (show [] = G.vals by first|(rw [hG]; done)|(rw [hG]; rfl)|(rw [hG]; simp [*]; done)))),le_of_eq (congrArg (fun z : UInt16 => p16 z) (show (u16I (getV b (1 + 2 * (1 : Int)))) = G.and_ by first|(rw [hG]; done)|(rw [hG]; rfl)|(rw [hG]; simp [*]; done))),le_of_eq (congrArg (fun z : UInt16 => p16 z) (show (u16I (getV b (1 + 2 * (2 : Int)))) = G.or_ by first|(rw [hG]; done)|(rw [hG]; rfl)|(rw [hG]; simp [*]; done))),trivial⟩ ?_
      refine w_ret ?_
      exact fin_plain (ret_cell tab_27 (by decide) rfl rfl (Nat.le_of_ble_eq_true rfl) rfl ret_nil) rfl rfl ⟨rfl,rfl,rfl⟩
     ·
      have c5_ := c5
      try simp only [sB] at c5
      refine w_seq ?_
      refine w_R ?_
      refine qo hnt rfl (s_eql rfl rfl ?_)
      refine qa hnt rfl rfl ?_
      refine r_end ?_
      refine q_then ?_
      refine w_if rfl (fun c6 => ?_) (fun c6 => ?_)
      ·
       have c6_ := c6
       try simp only [sB] at c6
       rw [guessP_15 hb0 (by omega)] at hG
       refine w_seq ?_
       refine w_R ?_
       refine qm hnt rfl rfl ?_
       refine qo hnt rfl (s_callF rfl rfl rfl (w_pdu_num b cl_b 1 (by first|omega|assumption|(simp; omega)|decide|(simp; done)) (by first|omega|assumption|(simp; omega)|decide|(simp; done))) rfl ?_)
       refine qo hnt rfl (s_fa_ptr tab_27 rfl rfl tab_3 (by decide) rfl ?_)
       refine qo hnt rfl (s_store_ptr tab_3 rfl rfl rfl rfl rfl (Nat.le_of_ble_eq_true rfl) ?_)
       refine r_set [(0,pS 1 cl_b enc8 b),(2,PV.ptr 0 0),(3,PV.ptr 1 0)] [(1,.obj [pN (UInt8.toNat e1),pI (getV b (1 + 2 * (0 : Int))),pI (getV b (1 + 2 * (1 : Int))),pI 0,pI 0,pNil,pNil,p16 0,p16 0]),(0,.obj [pI 0,pI 0,pI 0,pI 0,pI 0,pNil,pNil,p16 0,p16 0])] 2 ⟨rfl,rfl,rfl,trivial⟩ rfl rfl ?_
       refine r_end ?_
       refine q_then ?_
       refine w_seq ?_
       refine w_R ?_
       refine qa hnt rfl rfl ?_
       refine r_end ?_
       refine q_then ?_
       refine w_seq ?_
       refine w_R ?_
       refine qm hnt rfl rfl ?_
       refine qm hnt rfl rfl ?_
       refine qo hnt rfl (s_lenM (l := b) tab_34 rfl (hM_sl (f := enc8) rfl) ?_)
       refine qo hnt rfl (s_leq rfl rfl ?_)
       refine r_end ?_
       refine q_then ?_
       refine w_if rfl (fun c7 => ?_) (fun c7 => ?_)
       ·
        have c7_ := c7
        try simp only [sB] at c7
        rw [if_pos (by omega)] at hG
        have hgl := getV_le b 3
        refine W_drawn tabOk mixed hnt [[],[],[0,1],[],[3],[0,1,2,3,4],[0,1,2,3,4,5],[0,1,2,3,4,5,6],[0,1,2,3,4,5,6],[0,1,2,3,4,5,6,7],[0,1,2,3,4,5,6,7,9]] (by kernel_rfl) ?_
        refine d_op ?_
        refine x_run0 [(0,pS 1 cl_b enc8 b)] [] rfl rfl rfl rfl (s_move rfl ⟨rfl,rfl,rfl⟩) ?_
        refine d_op ?_
        refine x_run0 [(4,pI 6)] [] rfl rfl rfl rfl (s_move rfl ⟨rfl,rfl,rfl⟩) ?_
        refine d_op ?_
        refine x_run0 [(64,pS 1 cl_b enc8 b),(65,pI 6)] [0,1] rfl rfl rfl rfl (s_cutM_lo (a := 6) (f := enc8) (l := b) tab_34 rfl tab_5 ⟨rfl,by decide⟩ rfl (bound_some rfl (by omega)) (by omega) ⟨rfl,rfl,rfl⟩) ?_
        refine d_op ?_
        refine x_run0 [(3,PV.ptr 1 0)] [] rfl rfl rfl rfl (s_fa_ptr tab_27 rfl rfl tab_3 (by decide) rfl ⟨rfl,rfl,rfl⟩) ?_
        refine d_op ?_
        refine x_run [(67,PV.ptr 1 2)] [3] [(1,.obj [pN (UInt8.toNat e1),pI (getV b (1 + 2 * (0 : Int))),pI (getV b (1 + 2 * (1 : Int))),pI 0,pI 0,pNil,pNil,p16 0,p16 0])] [] [(1,.obj [pN (UInt8.toNat e1),pI (getV b (1 + 2 * (0 : Int))),pI (getV b (1 + 2 * (1 : Int))),pI 0,pI 0,pNil,pNil,p16 0,p16 0])] [] [(1,.obj [pN (UInt8.toNat e1),pI (getV b (1 + 2 * (0 : Int))),pI (getV b (1 + 2 * (1 : Int))),pI 0,pI 0,pNil,pNil,p16 0,p16 0]),(0,.obj [pI 0,pI 0,pI 0,pI 0,pI 0,pNil,pNil,p16 0,p16 0])] rfl rfl rfl rfl rfl rfl (s_load_ptr1 tab_3 rfl rfl rfl rfl rfl ⟨rfl,rfl,rfl⟩) rfl ⟨rfl,trivial⟩ rfl rfl ?_
        refine d_op ?_
        refine x_run0 [(66,pS 1 cl_b enc8 (b.drop 6)),(68,pI (getV b (1 + 2 * (1 : Int))))] [0,1,2,3,4] rfl rfl rfl rfl (s_callF rfl rfl rfl (w_octet_Open_s (b.drop 6) cl_b (getV b (1 + 2 * (1 : Int))) (by rw [List.length_drop]; omega) (by first|omega|(have h7 := getV_le b (1 + 2 * 1); omega)|(have h7 := getV_le b (1 + 2 * ((1 : Nat) : Int)); omega))) rfl ⟨rfl,rfl,rfl⟩) ?_
        refine d_op ?_
        refine x_run0 [(69,PV.tup [pS 1 false encBo (bopV (b.drop 6) (getV b (1 + 2 * (1 : Int)))),pB (bopOk (b.drop 6) (getV b (1 + 2 * (1 : Int))))])] [0,1,2,3,4,5] rfl rfl rfl rfl (s_move rfl ⟨rfl,rfl,rfl⟩) ?_
        refine d_op ?_
        refine x_run0 [(63,PV.tup [pS 1 false encBo (bopV (b.drop 6) (getV b (1 + 2 * (1 : Int)))),pB (bopOk (b.drop 6) (getV b (1 + 2 * (1 : Int))))])] [0,1,2,3,4,5,6] rfl rfl rfl rfl (s_extract rfl rfl ⟨rfl,rfl,rfl⟩) ?_
        refine d_op ?_
        refine x_run0 [(63,PV.tup [pS 1 false encBo (bopV (b.drop 6) (getV b (1 + 2 * (1 : Int)))),pB (bopOk (b.drop 6) (getV b (1 + 2 * (1 : Int))))])] [0,1,2,3,4,5,6] rfl rfl rfl rfl (s_extract rfl rfl ⟨rfl,rfl,rfl⟩) ?_
        refine d_op ?_
        refine x_run0 [(3,PV.ptr 1 0)] [0,1,2,3,4,5,6,7] rfl rfl rfl rfl (s_fa_ptr tab_27 rfl rfl tab_23 (by decide) rfl ⟨rfl,rfl,rfl⟩) ?_
        refine d_op ?_
        refine x_run [(72,PV.ptr 1 5),(70,pS 1 false encBo (bopV (b.drop 6) (getV b (1 + 2 * (1 : Int)))))] [0,1,2,3,4,5,6,7,9] [] [(1,.obj [pN (UInt8.toNat e1),pI (getV b (1 + 2 * (0 : Int))),pI (getV b (1 + 2 * (1 : Int))),pI 0,pI 0,pNil,pNil,p16 0,p16 0])] [(1,.obj [pN (UInt8.toNat e1),pI (getV b (1 + 2 * (0 : Int))),pI (getV b (1 + 2 * (1 : Int))),pI 0,pI 0,pS 1 false encBo (bopV (b.drop 6) (getV b (1 + 2 * (1 : Int)))),pNil,p16 0,p16 0])] [(1,.obj [pN (UInt8.toNat e1),pI (getV b (1 + 2 * (0 : Int))),pI (getV b (1 + 2 * (1 : Int))),pI 0,pI 0,pS 1 false encBo (bopV (b.drop 6) (getV b (1 + 2 * (1 : Int)))),pNil,p16 0,p16 0])] [(1,.obj [pN (UInt8.toNat e1),pI (getV b (1 + 2 * (0 : Int))),pI (getV b (1 + 2 * (1 : Int))),pI 0,pI 0,pS 1 false encBo (bopV (b.drop 6) (getV b (1 + 2 * (1 : Int)))),pNil,p16 0,p16 0]),(0,.obj [pI 0,pI 0,pI 0,pI 0,pI 0,pNil,pNil,p16 0,p16 0])] rfl rfl rfl rfl rfl rfl (s_store_ptr tab_23 rfl rfl rfl rfl rfl (Nat.le_of_ble_eq_true rfl) ⟨rfl,rfl,rfl⟩) rfl trivial rfl rfl ?_
        refine d_end ⟨by kernel_rfl, ?_⟩
        refine q_block ?_
        refine q_then ?_
        refine w_seq ?_
        refine w_R ?_
        refine qo hnt rfl (s_load_ptr tab_27 rfl rfl rfl (Nat.le_of_ble_eq_true rfl) ?_)
        refine qo hnt rfl (s_store_ptr tab_27 rfl rfl rfl rfl rfl (Nat.le_of_ble_eq_true rfl) ?_)
        refine r_set [(2,PV.ptr 0 0)] [(0,.obj [pN (UInt8.toNat e1),pI (getV b (1 + 2 * (0 : Int))),pI (getV b (1 + 2 * (1 : Int))),pI 0,pI 0,pS 1 false encBo (bopV (b.drop 6) (getV b (1 + 2 * (1 : Int)))),pNil,p16 0,p16 0]),(1,.obj [pN (UInt8.toNat e1),pI (getV b (1 + 2 * (0 : Int))),pI (getV b (1 + 2 * (1 : Int))),pI 0,pI 0,pS 1 false encBo (bopV (b.drop 6) (getV b (1 + 2 * (1 : Int)))),pNil,p16 0,p16 0])] 2 ⟨rfl,trivial⟩ rfl rfl ?_
        refine r_end ?_
        refine q_then ?_
        refine w_leO (n := 0) (ds := [pI G.fn,pI G.at_,pI G.count,pI G.wAt,pI G.sub,pS 1 false encBo G.bits,pS 1 false enc16 G.vals,p16 G.and_,p16 G.or_]) rfl ⟨le_of_eq (congrArg (fun z : Int => pI z) (show ((UInt8.toNat e1 : Nat) : Int) = G.fn by first|(rw [hG]; done)|(rw [hG]; rfl)|(rw [hG]; simp [*]; done))),le_of_eq (congrArg (fun z : Int => pI z) (show (getV b (1 + 2 * (0 : Int))) = G.at_ by first|(rw [hG]; done)|(rw [hG]; rfl)|(rw [hG]; simp [*]; done))),le_of_eq (congrArg (fun z : Int => pI z) (show (getV b (1 + 2 * (1 : Int))) = G.count by first|(rw [hG]; done)|(rw [hG]; rfl)|(rw [hG]; simp [*]; done))),le_of_eq (congrArg (fun z : Int => pI z) (show 0 = G.wAt by first|(rw [hG]; done)|(rw [hG]; rfl)|(rw [hG]; simp [*]; done))),le_of_eq (congrArg (fun z : Int => pI z) (show 0 = G.sub by first|(rw [hG]; done)|(rw [hG]; rfl)|(rw [hG]; simp [*]; done))),le_of_eq (congrArg (fun z => pS 1 false encBo z) (show (bopV (b.drop 6) (getV b (1 + 2 * (1 : Int)))) = G.bits by first|(rw [hG]; done)|(rw [hG]; rfl)|(rw [hG]; simp [*]; done))),le_tr (le_nilS 1 false) (le_of_eq (congrArg (fun z => pS 1 false enc16 z) (show [] = G.vals by first|(rw [hG]; done)|(rw [hG]; rfl)|(rw [hG]; simp [*]; done)))),le_of_eq (congrArg (fun z : UInt16 => p16 z) (show 0 = G.and_ by first|(rw [hG]; done)|(rw [hG]; rfl)|(rw [hG]; simp [*]; done))),le_of_eq (congrArg (fun z : UInt16 => p16 z) (show 0 = G.or_ by first|(rw [hG]; done)|(rw [hG]; rfl)|(rw [hG]; simp [*]; done))),trivial⟩ ?_
        refine w_ret ?_
        exact fin_plain (ret_cell tab_27 (by decide) rfl rfl (Nat.le_of_ble_eq_true rfl) rfl ret_nil) rfl rfl ⟨rfl,rfl,rfl⟩
       ·
        have c7_ := c7
        try simp only [sB] at c7
        rw [if_neg (by omega)] at hG
        refine w_skip ?_
        refine q_block ?_
        refine q_then ?_
        refine w_seq ?_
        refine w_R ?_
        refine qo hnt rfl (s_load_ptr tab_27 rfl rfl rfl (Nat.le_of_ble_eq_true rfl) ?_)
        refine qo hnt rfl (s_store_ptr tab_27 rfl rfl rfl rfl rfl (Nat.le_of_ble_eq_true rfl) ?_)
        refine r_set [(2,PV.ptr 0 0)] [(0,.obj [pN (UInt8.toNat e1),pI (getV b (1 + 2 * (0 : Int))),pI (getV b (1 + 2 * (1 : Int))),pI 0,pI 0,pNil,pNil,p16 0,p16 0]),(1,.obj [pN (UInt8.toNat e1),pI (getV b (1 + 2 * (0 : Int))),pI (getV b (1 + 2 * (1 : Int))),pI 0,pI 0,pNil,pNil,p16 0,p16 0])] 2 ⟨rfl,trivial⟩ rfl rfl ?_
        refine r_end ?_
        refine q_then ?_
        refine w_leO (n := 0) (ds := [pI G.fn,pI G.at_,pI G.count,pI G.wAt,pI G.sub,pS 1 false encBo G.bits,pS 1 false enc16 G.vals,p16 G.and_,p16 G.or_]) rfl ⟨le_of_eq (congrArg (fun z : Int => pI z) (show ((UInt8.toNat e1 : Nat) : Int) = G.fn by first|(rw [hG]; done)|(rw [hG]; rfl)|(rw [hG]; simp [*]; done))),le_of_eq (congrArg (fun z : Int => pI z) (show (getV b (1 + 2 * (0 : Int))) = G.at_ by first|(rw [hG]; done)|(rw [hG]; rfl)|(rw [hG]; simp [*]; done))),le_of_eq (congrArg (fun z : Int => pI z) (show (getV b (1 + 2 * (1 : Int))) = G.count by first|(rw [hG]; done)|(rw [hG]; rfl)|(rw [hG]; simp [*]; done))),le_of_eq (congrArg (fun z : Int => pI z) (show 0 = G.wAt by first|(rw [hG]; done)|(rw [hG]; rfl)|(rw [hG]; simp [*]; done))),le_of_eq (congrArg (fun z : Int => pI z) (show 0 = G.sub by first|(rw [hG]; done)|(rw [hG]; rfl)|(rw [hG]; simp [*]; done))),le_tr (le_nilS 1 false) (le_of_eq (congrArg (fun z => pS 1 false encBo z) (show [] = G.bits by first|(rw [hG]; done)|(rw [hG]; rfl)|(rw [hG]; simp [*]; done)))),le_tr (le_nilS 1 false) (le_of_eq (congrArg (fun z => pS 1 false enc16 z) (show [] = G.vals by first|(rw [hG]; done)|(rw [hG]; rfl)|(rw [hG]; simp [*]; done)))),le_of_eq (congrArg (fun z : UInt16 => p16 z) (show 0 = G.and_ by first|(rw [hG]; done)|(rw [hG]; rfl)|(rw [hG]; simp [*]; done))),le_of_eq (congrArg (fun z : UInt16 => p16 z) (show 0 = G.or_ by first|(rw [hG]; done)|(rw [hG]; rfl)|(rw [hG]; simp [*]; done))),trivial⟩ ?_
        refine w_ret ?_
        exact fin_plain (ret_cell tab_27 (by decide) rfl rfl (Nat.le_of_ble_eq_true rfl) rfl ret_nil) rfl rfl ⟨rfl,rfl,rfl⟩
      ·
       have c6_ := c6
       try simp only [sB] at c6
       refine w_seq ?_
       refine w_R ?_
       refine qo hnt rfl (s_eql rfl rfl ?_)
       refine qa hnt rfl rfl ?_
       refine r_end ?_
       refine q_then ?_
       refine w_if rfl (fun c8 => ?_) (fun c8 => ?_)
       ·
        have c8_ := c8
        try simp only [sB] at c8
        rw [guessP_16 hb0 (by omega)] at hG
        refine w_R ?_
        refine qm hnt rfl rfl ?_
        refine qo hnt rfl (s_callF rfl rfl rfl (w_pdu_num b cl_b 1 (by first|omega|assumption|(simp; omega)|decide|(simp; done)) (by first|omega|assumption|(simp; omega)|decide|(simp; done))) rfl ?_)
        refine qm hnt rfl rfl ?_
        refine qo hnt rfl (s_callF rfl rfl rfl (w_pdu_words b cl_b 6 (by first|omega|assumption|(simp; omega)|decide|(simp; done)) (by first|omega|assumption|(simp; omega)|decide|(simp; done))) rfl ?_)
        refine qo hnt rfl (s_fa_ptr tab_27 rfl rfl tab_3 (by decide) rfl ?_)
        refine qo hnt rfl (s_store_ptr tab_3 rfl rfl rfl rfl rfl (Nat.le_of_ble_eq_true rfl) ?_)
        refine qo hnt rfl (s_fa_ptr tab_27 rfl rfl tab_24 (by decide) rfl ?_)
        refine qo hnt rfl (s_store_ptr tab_24 rfl rfl rfl rfl rfl (Nat.le_of_ble_eq_true rfl) ?_)
        refine r_set [(2,PV.ptr 0 0),(3,PV.ptr 1 0)] [(1,.obj [pN (UInt8.toNat e1),pI (getV b (1 + 2 * (0 : Int))),pI (getV b (1 + 2 * (1 : Int))),pI 0,pI 0,pNil,pS 1 false enc16 (wordsAtP b 6),p16 0,p16 0]),(0,.obj [pI 0,pI 0,pI 0,pI 0,pI 0,pNil,pNil,p16 0,p16 0])] 2 ⟨rfl,rfl,trivial⟩ rfl rfl ?_
        refine r_end ?_
        refine q_block ?_
        refine q_then ?_
        refine w_seq ?_
        refine w_R ?_
        refine qo hnt rfl (s_load_ptr tab_27 rfl rfl rfl (Nat.le_of_ble_eq_true rfl) ?_)
        refine qo hnt rfl (s_store_ptr tab_27 rfl rfl rfl rfl rfl (Nat.le_of_ble_eq_true rfl) ?_)
        refine r_set [(2,PV.ptr 0 0)] [(0,.obj [pN (UInt8.toNat e1),pI (getV b (1 + 2 * (0 : Int))),pI (getV b (1 + 2 * (1 : Int))),pI 0,pI 0,pNil,pS 1 false enc16 (wordsAtP b 6),p16 0,p16 0]),(1,.obj [pN (UInt8.toNat e1),pI (getV b (1 + 2 * (0 : Int))),pI (getV b (1 + 2 * (1 : Int))),pI 0,pI 0,pNil,pS 1 false enc16 (wordsAtP b 6),p16 0,p16 0])] 2 ⟨rfl,trivial⟩ rfl rfl ?_
        refine r_end ?_
        refine q_then ?_
        refine w_leO (n := 0) (ds := [pI G.fn,pI G.at_,pI G.count,pI G.wAt,pI G.sub,pS 1 false encBo G.bits,pS 1 false enc16 G.vals,p16 G.and_,p16 G.or_]) rfl ⟨le_of_eq (congrArg (fun z : Int => pI z) (show ((UInt8.toNat e1 : Nat) : Int) = G.fn by first|(rw [hG]; done)|(rw [hG]; rfl)|(rw [hG]; simp [*]; done))),le_of_eq (congrArg (fun z : Int => pI z) (show (getV b (1 + 2 * (0 : Int))) = G.at_ by first|(rw [hG]; done)|(rw [hG]; rfl)|(rw [hG]; simp [*]; done))),le_of_eq (congrArg (fun z : Int => pI z) (show (getV b (1 + 2 * (1 : Int))) = G.count by first|(rw [hG]; done)|(rw [hG]; rfl)|(rw [hG]; simp [*]; done))),le_of_eq (congrArg (fun z : Int => pI z) (show 0 = G.wAt by first|(rw [hG]; done)|(rw [hG]; rfl)|(rw [hG]; simp [*]; done))),le_of_eq (congrArg (fun z : Int => pI z) (show 0 = G.sub by first|(rw [hG]; done)|(rw [hG]; rfl)|(rw [hG]; simp [*]; done))),le_tr (le_nilS 1 false) (le_of_eq (congrArg (fun z => pS 1 false encBo z) (show [] = G.bits by first|(rw [hG]; done)|(rw [hG]; rfl)|(rw [hG]; simp [*]; done)))),le_of_eq (congrArg (fun z => pS 1 false enc16 z) (show (wordsAtP b 6) = G.vals by first|(rw [hG]; done)|(rw [hG]; rfl)|(rw [hG]; simp [*]; done))),le_of_eq (congrArg (fun z : UInt16 => p16 z) (show 0 = G.and_ by first|(rw [hG]; done)|(rw [hG]; rfl)|(rw [hG]; simp [*]; done))),le_of_eq (congrArg (fun z : UInt16 => p16 z) (show 0 = G.or_ by first|(rw [hG]; done)|(rw [hG]; rfl)|(rw [hG]; simp [*]; done))),trivial⟩ ?_
        refine w_ret ?_
        exact fin_plain (ret_cell tab_27 (by decide) rfl rfl (Nat.le_of_ble_eq_true rfl) rfl ret_nil) rfl rfl ⟨rfl,rfl,rfl⟩
       ·
        have c8_ := c8
        try simp only [sB] at c8
        refine w_seq ?_
        refine w_R ?_
        refine qo hnt rfl (s_eql rfl rfl ?_)
        refine qa hnt rfl rfl ?_
        refine r_end ?_
        refine q_then ?_
        refine w_if rfl (fun c9 => ?_) (fun c9 => ?_)
        ·
         have c9_ := c9
         try simp only [sB] at c9
         rw [guessP_23 hb0 (by omega)] at hG
         refine w_R ?_
         refine qm hnt rfl rfl ?_
         refine qo hnt rfl (s_callF rfl rfl rfl (w_pdu_num b cl_b 1 (by first|omega|assumption|(simp; omega)|decide|(simp; done)) (by first|omega|assumption|(simp; omega)|decide|(simp; done))) rfl ?_)
         refine qm hnt rfl rfl ?_
         refine qo hnt rfl (s_callF rfl rfl rfl (w_pdu_num b cl_b 2 (by first|omega|assumption|(simp; omega)|decide|(simp; done)) (by first|omega|assumption|(simp; omega)|decide|(simp; done))) rfl ?_)
         refine qm hnt rfl rfl ?_
         refine qo hnt rfl (s_callF rfl rfl rfl (w_pdu_words b cl_b 10 (by first|omega|assumption|(simp; omega)|decide|(simp; done)) (by first|omega|assumption|(simp; omega)|decide|(simp; done))) rfl ?_)
         refine qo hnt rfl (s_fa_ptr tab_27 rfl rfl tab_3 (by decide) rfl ?_)
         refine qo hnt rfl (s_store_ptr tab_3 rfl rfl rfl rfl rfl (Nat.le_of_ble_eq_true rfl) ?_)
         refine qo hnt rfl (s_fa_ptr tab_27 rfl rfl tab_3 (by decide) rfl ?_)
         refine qo hnt rfl (s_store_ptr tab_3 rfl rfl rfl rfl rfl (Nat.le_of_ble_eq_true rfl) ?_)
         refine qo hnt rfl (s_fa_ptr tab_27 rfl rfl tab_24 (by decide) rfl ?_)
         refine qo hnt rfl (s_store_ptr tab_24 rfl rfl rfl rfl rfl (Nat.le_of_ble_eq_true rfl) ?_)
         refine r_set [(2,PV.ptr 0 0),(3,PV.ptr 1 0)] [(1,.obj [pN (UInt8.toNat e1),pI (getV b (1 + 2 * (0 : Int))),pI (getV b (1 + 2 * (1 : Int))),pI (getV b (1 + 2 * (2 : Int))),pI 0,pNil,pS 1 false enc16 (wordsAtP b 10),p16 0,p16 0]),(0,.obj [pI 0,pI 0,pI 0,pI 0,pI 0,pNil,pNil,p16 0,p16 0])] 2 ⟨rfl,rfl,trivial⟩ rfl rfl ?_
         refine r_end ?_
         refine q_block ?_
         refine q_then ?_
         refine w_seq ?_
         refine w_R ?_
         refine qo hnt rfl (s_load_ptr tab_27 rfl rfl rfl (Nat.le_of_ble_eq_true rfl) ?_)
         refine qo hnt rfl (s_store_ptr tab_27 rfl rfl rfl rfl rfl (Nat.le_of_ble_eq_true rfl) ?_)
         refine r_set [(2,PV.ptr 0 0)] [(0,.obj [pN (UInt8.toNat e1),pI (getV b (1 + 2 * (0 : Int))),pI (getV b (1 + 2 * (1 : Int))),pI (getV b (1 + 2 * (2 : Int))),pI 0,pNil,pS 1 false enc16 (wordsAtP b 10),p16 0,p16 0]),(1,.obj [pN (UInt8.toNat e1),pI (getV b (1 + 2 * (0 : Int))),pI (getV b (1 + 2 * (1 : Int))),pI (getV b (1 + 2 * (2 : Int))),pI 0,pNil,pS 1 false enc16 (wordsAtP b 10),p16 0,p16 0])] 2 ⟨rfl,trivial⟩ rfl rfl ?_
         refine r_end ?_
         refine q_then ?_
         refine w_leO (n := 0) (ds := [pI G.fn,pI G.at_,pI G.count,pI G.wAt,pI G.sub,pS 1 false encBo G.bits,pS 1 false enc16 G.vals,p16 G.and_,p16 G.or_]) rfl ⟨le_of_eq (congrArg (fun z : Int => pI z) (show ((UInt8.toNat e1 : Nat) : Int) = G.fn by first|(rw [hG]; done)|(rw [hG]; rfl)|(rw [hG]; simp [*]; done))),le_of_eq (congrArg (fun z : Int => pI z) (show (getV b (1 + 2 * (0 : Int))) = G.at_ by first|(rw [hG]; done)|(rw [hG]; rfl)|(rw [hG]; simp [*]; done))),le_of_eq (congrArg (fun z : Int => pI z) (show (getV b (1 + 2 * (1 : Int))) = G.count by first|(rw [hG]; done)|(rw [hG]; rfl)|(rw [hG]; simp [*]; done))),le_of_eq (congrArg (fun z : Int => pI z) (show (getV b (1 + 2 * (2 : Int))) = G.wAt by first|(rw [hG]; done)|(rw [hG]; rfl)|(rw [hG]; simp [*]; done))),le_of_eq (congrArg (fun z : Int => pI z) (show 0 = G.sub by first|(rw [hG]; done)|(rw [hG]; rfl)|(rw [hG]; simp [*]; done))),le_tr (le_nilS 1 false) (le_of_eq (congrArg (fun z => pS 1 false encBo z) (show [] = G.bits by first|(rw [hG]; done)|(rw [hG]; rfl)|(rw [hG]; simp [*]; done)))),le_of_eq (congrArg (fun z => pS 1 false enc16 z) (show (wordsAtP b 10) = G.vals by first|(rw [hG]; done)|(rw [hG]; rfl)|(rw [hG]; simp [*]; done))),le_of_eq (congrArg (fun z : UInt16 => p16 z) (show 0 = G.and_ by first|(rw [hG]; done)|(rw [hG]; rfl)|(rw [hG]; simp [*]; done))),le_of_eq (congrArg (fun z : UInt16 => p16 z) (show 0 = G.or_ by first|(rw [hG]; done)|(rw [hG]; rfl)|(rw [hG]; simp [*]; done))),trivial⟩ ?_
         refine w_ret ?_
         exact fin_plain (ret_cell tab_27 (by decide) rfl rfl (Nat.le_of_ble_eq_true rfl) rfl ret_nil) rfl rfl ⟨rfl,rfl,rfl⟩
        ·
         have c9_ := c9
         try simp only [sB] at c9
         rw [guessP_no hb0 (by omega)] at hG
         refine w_R ?_
         refine qm hnt rfl rfl ?_
         refine qo hnt rfl (s_callF rfl rfl rfl (w_pdu_num b cl_b 1 (by first|omega|assumption|(simp; omega)|decide|(simp; done)) (by first|omega|assumption|(simp; omega)|decide|(simp; done))) rfl ?_)
         refine qo hnt rfl (s_fa_ptr tab_27 rfl rfl tab_3 (by decide) rfl ?_)
         refine qo hnt rfl (s_store_ptr tab_3 rfl rfl rfl rfl rfl (Nat.le_of_ble_eq_true rfl) ?_)
         refine r_set [(2,PV.ptr 0 0),(3,PV.ptr 1 0)] [(1,.obj [pN (UInt8.toNat e1),pI (getV b (1 + 2 * (0 : Int))),pI (getV b (1 + 2 * (1 : Int))),pI 0,pI 0,pNil,pNil,p16 0,p16 0]),(0,.obj [pI 0,pI 0,pI 0,pI 0,pI 0,pNil,pNil,p16 0,p16 0])] 2 ⟨rfl,rfl,trivial⟩ rfl rfl ?_
         refine r_end ?_
         refine q_block ?_
         refine q_then ?_
         refine w_seq ?_
         refine w_R ?_
         refine qo hnt rfl (s_load_ptr tab_27 rfl rfl rfl (Nat.le_of_ble_eq_true rfl) ?_)
         refine qo hnt rfl (s_store_ptr tab_27 rfl rfl rfl rfl rfl (Nat.le_of_ble_eq_true rfl) ?_)
         refine r_set [(2,PV.ptr 0 0)] [(0,.obj [pN (UInt8.toNat e1),pI (getV b (1 + 2 * (0 : Int))),pI (getV b (1 + 2 * (1 : Int))),pI 0,pI 0,pNil,pNil,p16 0,p16 0]),(1,.obj [pN (UInt8.toNat e1),pI (getV b (1 + 2 * (0 : Int))),pI (getV b (1 + 2 * (1 : Int))),pI 0,pI 0,pNil,pNil,p16 0,p16 0])] 2 ⟨rfl,trivial⟩ rfl rfl ?_
         refine r_end ?_
         refine q_then ?_
         refine w_leO (n := 0) (ds := [pI G.fn,pI G.at_,pI G.count,pI G.wAt,pI G.sub,pS 1 false encBo G.bits,pS 1 false enc16 G.vals,p16 G.and_,p16 G.or_]) rfl ⟨le_of_eq (congrArg (fun z : Int => pI z) (show ((UInt8.toNat e1 : Nat) : Int) = G.fn by first|(rw [hG]; done)|(rw [hG]; rfl)|(rw [hG]; simp [*]; done))),le_of_eq (congrArg (fun z : Int => pI z) (show (getV b (1 + 2 * (0 : Int))) = G.at_ by first|(rw [hG]; done)|(rw [hG]; rfl)|(rw [hG]; simp [*]; done))),le_of_eq (congrArg (fun z : Int => pI z) (show (getV b (1 + 2 * (1 : Int))) = G.count by first|(rw [hG]; done)|(rw [hG]; rfl)|(rw [hG]; simp [*]; done))),le_of_eq (congrArg (fun z : Int => pI z) (show 0 = G.wAt by first|(rw [hG]; done)|(rw [hG]; rfl)|(rw [hG]; simp [*]; done))),le_of_eq (congrArg (fun z : Int => pI z) (show 0 = G.sub by first|(rw [hG]; done)|(rw [hG]; rfl)|(rw [hG]; simp [*]; done))),le_tr (le_nilS 1 false) (le_of_eq (congrArg (fun z => pS 1 false encBo z) (show [] = G.bits by first|(rw [hG]; done)|(rw [hG]; rfl)|(rw [hG]; simp [*]; done)))),le_tr (le_nilS 1 false) (le_of_eq (congrArg (fun z => pS 1 false enc16 z) (show [] = G.vals by first|(rw [hG]; done)|(rw [hG]; rfl)|(rw [hG]; simp [*]; done)))),le_of_eq (congrArg (fun z : UInt16 => p16 z) (show 0 = G.and_ by first|(rw [hG]; done)|(rw [hG]; rfl)|(rw [hG]; simp [*]; done))),le_of_eq (congrArg (fun z : UInt16 => p16 z) (show 0 = G.or_ by first|(rw [hG]; done)|(rw [hG]; rfl)|(rw [hG]; simp [*]; done))),trivial⟩ ?_
         refine w_ret ?_
         exact fin_plain (ret_cell tab_27 (by decide) rfl rfl (Nat.le_of_ble_eq_true rfl) rfl ret_nil) rfl rfl ⟨rfl,rfl,rfl⟩
theorem w_pdu_Bytes (r : TRequest) (hb : r.bits.length ≤ 140737488351232) (hv : r.vals.length ≤ 140737488351232) :
    T Try.prog 16 [PV.f (eRequest r)] 0 [] (Ret (PV.tup [pS 1 false enc8 (bytesR r),pI (rightR r)]) 0 []) := by
 refine t_fun tabOk (n := 103) (rs := [.tmp 2,.tmp 3]) Try.func16 rfl rfl rfl rfl (Nat.le_of_ble_eq_true rfl) ?_
 intro c hnt hk
 refine w_seq ?_
 refine w_R ?_
 refine qo hnt rfl (s_box rfl rfl ?_)
 refine qa hnt rfl rfl ?_
 refine qa hnt rfl rfl ?_
 refine r_set [(1,PV.ptr 0 0)] [(0,.obj [pI r.fn,pI r.at_,pI r.count,pI r.wAt,pI r.sub,pS 1 false encBo r.bits,pS 1 false enc16 r.vals,p16 r.and_,p16 r.or_])] 1 ⟨rfl,trivial⟩ rfl rfl ?_
 refine r_end ?_
 refine q_then ?_
 refine w_seq ?_
 refine w_seq ?_
 refine w_R ?_
 refine qo hnt rfl (s_load_ptr tab_27 rfl rfl rfl (Nat.le_of_ble_eq_true rfl) ?_)
 refine qo hnt rfl (s_callF rfl rfl rfl (w_pdu_Right r (by first|omega|assumption|(simp; omega)|decide|(simp; done)) (by first|omega|assumption|(simp; omega)|decide|(simp; done))) rfl ?_)
 refine qa hnt rfl rfl ?_
 refine r_end ?_
 refine q_then ?_
 refine w_seq ?_
 refine w_R ?_
 refine qm hnt rfl rfl ?_
 refine qo hnt rfl (s_neq rfl rfl ?_)
 refine r_end ?_
 refine q_then ?_
 refine w_if rfl (fun c1 => ?_) (fun c1 => ?_)
 ·
  have c1_ := c1
  try simp only [sB] at c1
  refine w_seq ?_
  refine w_R ?_
  refine qm hnt rfl rfl ?_
  refine qa hnt rfl rfl ?_
  refine qa hnt rfl rfl ?_
  refine r_end ?_
  refine q_then ?_
  refine w_le (s := 2) (y := pS 1 false enc8 []) rfl (le_nilS 1 false) ?_
  refine w_le (s := 2) (y := pS 1 false enc8 (bytesR r)) rfl (le_of_eq (congrArg (fun z => pS 1 false enc8 z) (show [] = (bytesR r) by first|(rw [bytesR_no (by first|assumption|simpa using c1_)]; done)|(rw [hbr,writeR_no (by omega)]; done)|(rw [hbr,writeR_1 (by omega)]; simp; done)|(rw [hbr,writeR_15 (by omega)]; simp; done)|(rw [hbr,writeR_16 (by omega)]; simp; done)|(rw [hbr,writeR_22 (by omega)]; simp; done)|(rw [hbr,writeR_23 (by omega)]; simp; done)|(rw [hbr,writeR_5 (by omega) (by assumption)]; simp [*]; done)|(rw [hbr,writeR_8 (e := v1) (by omega) (by rw [hv1]; rfl),hv1,bytes_one]; simp; done)|(rw [hbr,writeR_6 (e := v1) (by omega) (by rw [hv1]; rfl),hv1,bytes_one]; simp; done)|simp [*]))) ?_
  refine w_ret ?_
  refine q_then_ret ?_
  exact fin_plain (ret_tmp rfl (ret_tmp rfl ret_nil)) rfl rfl ⟨rfl,rfl,rfl⟩
 ·
  have c1_ := c1
  try simp only [sB] at c1
  refine w_skip ?_
  refine q_then ?_
  refine w_seq ?_
  have hr0 : rightR r = 0 := by first|exact c1|simpa using c1_
  have hbr := bytesR_yes hr0
  have hsh := (rightR_zero hr0).2
  have hff := hasF_of (rightR_zero hr0).1
  have hsm := shape_small hsh
  have h5b := hsh.bits
  have h6b := hsh.vals
  refine w_R ?_
  refine qo hnt rfl (s_fa_ptr tab_27 rfl rfl tab_3 (by decide) rfl ?_)
  refine qo hnt rfl (s_load_ptr1 tab_3 rfl rfl rfl rfl rfl ?_)
  refine qo hnt rfl (s_cv8 tab_3 tab_5 rfl rfl rfl ?_)
  refine qo hnt rfl (s_mkM (f := enc8) [u8I r.fn] tab_34 rfl tab_5 ⟨rfl,by decide⟩ (by decide) rfl rfl rfl rfl ?_)
  refine qa hnt rfl rfl ?_
  refine r_set [(1,PV.ptr 0 0),(5,PV.ref 1 0 none)] [(1,oB true 1 enc8 [u8I r.fn]),(0,.obj [pI r.fn,pI r.at_,pI r.count,pI r.wAt,pI r.sub,pS 1 false encBo r.bits,pS 1 false enc16 r.vals,p16 r.and_,p16 r.or_])] 2 ⟨rfl,rfl,trivial⟩ rfl rfl ?_
  refine r_end ?_
  refine q_then ?_
  refine w_seq ?_
  refine w_seq ?_
  refine w_R ?_
  refine qo hnt rfl (s_fa_ptr tab_27 rfl rfl tab_3 (by decide) rfl ?_)
  refine qo hnt rfl (s_load_ptr1 tab_3 rfl rfl rfl rfl rfl ?_)
  refine r_end ?_
  refine q_then ?_
  refine w_block ?_
  refine w_seq ?_
  refine w_R ?_
  refine qo hnt rfl (s_eql rfl rfl ?_)
  refine qa hnt rfl rfl ?_
  refine r_end ?_
  refine q_then ?_
  refine w_if rfl (fun c2 => ?_) (fun c2 => ?_)
  ·
   have c2_ := c2
   try simp only [sB] at c2
   refine w_seq ?_
   refine w_R ?_
   refine qm hnt rfl rfl ?_
   refine qa hnt rfl rfl ?_
   refine qa hnt rfl rfl ?_
   refine r_end ?_
   refine q_then ?_
   refine w_frzM (s := 2) (f := enc8) rfl rfl view_0 ?_
   refine w_le (s := 2) (y := pS 1 false enc8 (bytesR r)) rfl (le_of_eq (congrArg (fun z => pS 1 false enc8 z) (show [u8I r.fn] = (bytesR r) by first|(rw [bytesR_no (by first|assumption|simpa using c1_)]; done)|(rw [hbr,writeR_no (by omega)]; done)|(rw [hbr,writeR_1 (by omega)]; simp; done)|(rw [hbr,writeR_15 (by omega)]; simp; done)|(rw [hbr,writeR_16 (by omega)]; simp; done)|(rw [hbr,writeR_22 (by omega)]; simp; done)|(rw [hbr,writeR_23 (by omega)]; simp; done)|(rw [hbr,writeR_5 (by omega) (by assumption)]; simp [*]; done)|(rw [hbr,writeR_8 (e := v1) (by omega) (by rw [hv1]; rfl),hv1,bytes_one]; simp; done)|(rw [hbr,writeR_6 (e := v1) (by omega) (by rw [hv1]; rfl),hv1,bytes_one]; simp; done)|simp [*]))) ?_
   refine w_le (s := 3) (y := pI (rightR r)) rfl (le_of_eq (congrArg (fun z : Int => pI z) (show 0 = (rightR r) by first|(rw [bytesR_no (by first|assumption|simpa using c1_)]; done)|(rw [hbr,writeR_no (by omega)]; done)|(rw [hbr,writeR_1 (by omega)]; simp; done)|(rw [hbr,writeR_15 (by omega)]; simp; done)|(rw [hbr,writeR_16 (by omega)]; simp; done)|(rw [hbr,writeR_22 (by omega)]; simp; done)|(rw [hbr,writeR_23 (by omega)]; simp; done)|(rw [hbr,writeR_5 (by omega) (by assumption)]; simp [*]; done)|(rw [hbr,writeR_8 (e := v1) (by omega) (by rw [hv1]; rfl),hv1,bytes_one]; simp; done)|(rw [hbr,writeR_6 (e := v1) (by omega) (by rw [hv1]; rfl),hv1,bytes_one]; simp; done)|simp [*]))) ?_
   refine w_ret ?_
   refine q_block_ret ?_
   refine q_then_ret ?_
   exact fin_plain (ret_tmp rfl (ret_tmp rfl ret_nil)) rfl rfl ⟨rfl,rfl,rfl⟩
  ·
   have c2_ := c2
   try simp only [sB] at c2
   refine w_seq ?_
   refine w_R ?_
   refine qo hnt rfl (s_eql rfl rfl ?_)
   refine qa hnt rfl rfl ?_
   refine r_end ?_
   refine q_then ?_
   refine w_if rfl (fun c3 => ?_) (fun c3 => ?_)
   ·
    have c3_ := c3
    try simp only [sB] at c3
    refine w_seq ?_
    obtain ⟨v1,hv1⟩ := vals_one (l := r.vals) (by rw [if_pos (by omega)] at h6b; exact h6b)
    refine W_drawn tabOk mixed hnt [[],[],[1],[0,1,2],[],[4],[0,1,2,3,4,5],[0,1,2,3,4,5,6],[0,1,2,3,4,5,6,7],[0,1,2,3,4,5,6,7,8]] (by kernel_rfl) ?_
    refine d_op ?_
    refine x_run0 [(5,PV.ref 1 0 none)] [] rfl rfl rfl rfl (s_move rfl ⟨rfl,rfl,rfl⟩) ?_
    refine d_op ?_
    refine x_run0 [(1,PV.ptr 0 0)] [] rfl rfl rfl rfl (s_fa_ptr tab_27 rfl rfl tab_3 (by decide) rfl ⟨rfl,rfl,rfl⟩) ?_
    refine d_op ?_
    refine x_run [(24,PV.ptr 0 4)] [1] [(0,.obj [pI r.fn,pI r.at_,pI r.count,pI r.wAt,pI r.sub,pS 1 false encBo r.bits,pS 1 false enc16 r.vals,p16 r.and_,p16 r.or_])] [] [(0,.obj [pI r.fn,pI r.at_,pI r.count,pI r.wAt,pI r.sub,pS 1 false encBo r.bits,pS 1 false enc16 r.vals,p16 r.and_,p16 r.or_])] [] [(1,oB true 1 enc8 [u8I r.fn]),(0,.obj [pI r.fn,pI r.at_,pI r.count,pI r.wAt,pI r.sub,pS 1 false encBo r.bits,pS 1 false enc16 r.vals,p16 r.and_,p16 r.or_])] rfl rfl rfl rfl rfl rfl (s_load_ptr1 tab_3 rfl rfl rfl rfl rfl ⟨rfl,rfl,rfl⟩) rfl ⟨rfl,trivial⟩ rfl rfl ?_
    refine d_op ?_
    refine x_run [(23,PV.ref 1 0 none),(25,pI r.sub)] [0,1,2] [] [(1,oB true 1 enc8 [u8I r.fn])] [(2,oB true 1 enc8 ([u8I r.fn] ++ put2 r.sub)),(1,oB false 1 enc8 [u8I r.fn])] [(2,oB true 1 enc8 ([u8I r.fn] ++ put2 r.sub)),(1,oB false 1 enc8 [u8I r.fn])] [(2,oB true 1 enc8 ([u8I r.fn] ++ put2 r.sub)),(1,oB false 1 enc8 [u8I r.fn]),(0,.obj [pI r.fn,pI r.at_,pI r.count,pI r.wAt,pI r.sub,pS 1 false encBo r.bits,pS 1 false enc16 r.vals,p16 r.and_,p16 r.or_])] rfl rfl rfl rfl rfl rfl (s_callX (r2 := PV.ref 2 0 none) (nx1 := 3) (H2 := [(1,oB false 1 enc8 [u8I r.fn])]) (H3 := [(2,oB true 1 enc8 ([u8I r.fn] ++ put2 r.sub)),(1,oB false 1 enc8 [u8I r.fn])]) [] [] rfl rfl rfl (handed_of (by decide) trivial) rfl rfl rfl rfl rfl rfl (w_octet_Put [u8I r.fn] false r.sub (by first|omega|assumption|(simp; omega)|decide|(simp; done))) rfl (dist_of rfl) rfl rfl rfl rfl ⟨rfl,rfl,rfl⟩) rfl trivial rfl rfl ?_
    refine d_op ?_
    refine x_run0 [(1,PV.ptr 0 0)] [] rfl rfl rfl rfl (s_fa_ptr tab_27 rfl rfl tab_24 (by decide) rfl ⟨rfl,rfl,rfl⟩) ?_
    refine d_op ?_
    refine x_run [(27,PV.ptr 0 6)] [4] [(0,.obj [pI r.fn,pI r.at_,pI r.count,pI r.wAt,pI r.sub,pS 1 false encBo r.bits,pS 1 false enc16 r.vals,p16 r.and_,p16 r.or_])] [] [(0,.obj [pI r.fn,pI r.at_,pI r.count,pI r.wAt,pI r.sub,pS 1 false encBo r.bits,pS 1 false enc16 r.vals,p16 r.and_,p16 r.or_])] [] [(2,oB true 1 enc8 ([u8I r.fn] ++ put2 r.sub)),(1,oB false 1 enc8 [u8I r.fn]),(0,.obj [pI r.fn,pI r.at_,pI r.count,pI r.wAt,pI r.sub,pS 1 false encBo r.bits,pS 1 false enc16 r.vals,p16 r.and_,p16 r.or_])] rfl rfl rfl rfl rfl rfl (s_load_ptr1 tab_24 rfl rfl rfl rfl rfl ⟨rfl,rfl,rfl⟩) rfl ⟨rfl,trivial⟩ rfl rfl ?_
    refine d_op ?_
    refine x_run [(28,pS 1 false enc16 r.vals)] [0,1,2,3,4,5] [] [] [(3,oB true 1 enc8 (bytesL r.vals))] [(3,oB true 1 enc8 (bytesL r.vals))] [(3,oB true 1 enc8 (bytesL r.vals)),(2,oB true 1 enc8 ([u8I r.fn] ++ put2 r.sub)),(1,oB false 1 enc8 [u8I r.fn]),(0,.obj [pI r.fn,pI r.at_,pI r.count,pI r.wAt,pI r.sub,pS 1 false encBo r.bits,pS 1 false enc16 r.vals,p16 r.and_,p16 r.or_])] rfl rfl rfl rfl rfl rfl (s_callX (r2 := PV.ref 3 0 none) (nx1 := 4) (H2 := []) (H3 := [(3,oB true 1 enc8 (bytesL r.vals))]) [] [] rfl rfl rfl (handed_of (by decide) trivial) rfl rfl rfl rfl rfl rfl (w_octet_Bytes r.vals false (by first|omega|assumption|(simp; omega)|decide|(simp; done))) rfl (dist_of rfl) rfl rfl rfl rfl ⟨rfl,rfl,rfl⟩) rfl trivial rfl rfl ?_
    refine d_op ?_
    refine x_run [(26,PV.ref 2 0 none),(29,PV.ref 3 0 none)] [0,1,2,3,4,5,6] [(3,oB true 1 enc8 (bytesL r.vals))] [(2,oB true 1 enc8 ([u8I r.fn] ++ put2 r.sub))] [(4,oB true 1 enc8 (([u8I r.fn] ++ put2 r.sub) ++ (bytesL r.vals))),(3,oB true 1 enc8 (bytesL r.vals))] [(4,oB true 1 enc8 (([u8I r.fn] ++ put2 r.sub) ++ (bytesL r.vals)))] [(4,oB true 1 enc8 (([u8I r.fn] ++ put2 r.sub) ++ (bytesL r.vals))),(3,oB true 1 enc8 (bytesL r.vals)),(1,oB false 1 enc8 [u8I r.fn]),(0,.obj [pI r.fn,pI r.at_,pI r.count,pI r.wAt,pI r.sub,pS 1 false encBo r.bits,pS 1 false enc16 r.vals,p16 r.and_,p16 r.or_])] rfl rfl rfl rfl rfl rfl (s_appR0 (f := enc8) (l := [u8I r.fn] ++ put2 r.sub) (xs := bytesL r.vals) tab_34 rfl tab_5 ⟨rfl,by decide,by decide⟩ (srcM tab_34 rfl (hM_ref0 (f := enc8) rfl rfl)) rfl rfl (by first|omega|(simp; omega)) ⟨rfl,rfl,rfl⟩) rfl ⟨rfl,trivial⟩ rfl rfl ?_
    refine d_op ?_
    refine x_run0 [(30,PV.ref 4 0 none)] [0,1,2,3,4,5,6,7] rfl rfl rfl rfl (s_assign rfl ⟨rfl,rfl,rfl⟩) ?_
    refine d_op ?_
    refine x_run0 [] [0,1,2,3,4,5,6,7,8] rfl rfl rfl rfl (s_assign rfl ⟨rfl,rfl,rfl⟩) ?_
    refine d_end ⟨by kernel_rfl, ?_⟩
    refine q_then ?_
    refine w_frzM (s := 2) (f := enc8) rfl rfl view_0 ?_
    refine w_le (s := 2) (y := pS 1 false enc8 (bytesR r)) rfl (le_of_eq (congrArg (fun z => pS 1 false enc8 z) (show (([u8I r.fn] ++ put2 r.sub) ++ (bytesL r.vals)) = (bytesR r) by first|(rw [bytesR_no (by first|assumption|simpa using c1_)]; done)|(rw [hbr,writeR_no (by omega)]; done)|(rw [hbr,writeR_1 (by omega)]; simp; done)|(rw [hbr,writeR_15 (by omega)]; simp; done)|(rw [hbr,writeR_16 (by omega)]; simp; done)|(rw [hbr,writeR_22 (by omega)]; simp; done)|(rw [hbr,writeR_23 (by omega)]; simp; done)|(rw [hbr,writeR_5 (by omega) (by assumption)]; simp [*]; done)|(rw [hbr,writeR_8 (e := v1) (by omega) (by rw [hv1]; rfl),hv1,bytes_one]; simp; done)|(rw [hbr,writeR_6 (e := v1) (by omega) (by rw [hv1]; rfl),hv1,bytes_one]; simp; done)|simp [*]))) ?_
    refine w_le (s := 3) (y := pI (rightR r)) rfl (le_of_eq (congrArg (fun z : Int => pI z) (show 0 = (rightR r) by first|(rw [bytesR_no (by first|assumption|simpa using c1_)]; done)|(rw [hbr,writeR_no (by omega)]; done)|(rw [hbr,writeR_1 (by omega)]; simp; done)|(rw [hbr,writeR_15 (by omega)]; simp; done)|(rw [hbr,writeR_16 (by omega)]; simp; done)|(rw [hbr,writeR_22 (by omega)]; simp; done)|(rw [hbr,writeR_23 (by omega)]; simp; done)|(rw [hbr,writeR_5 (by omega) (by assumption)]; simp [*]; done)|(rw [hbr,writeR_8 (e := v1) (by omega) (by rw [hv1]; rfl),hv1,bytes_one]; simp; done)|(rw [hbr,writeR_6 (e := v1) (by omega) (by rw [hv1]; rfl),hv1,bytes_one]; simp; done)|simp [*]))) ?_
    refine w_ret ?_
    refine q_block_ret ?_
    refine q_then_ret ?_
    exact fin_plain (ret_tmp rfl (ret_tmp rfl ret_nil)) rfl rfl ⟨rfl,rfl,rfl⟩
   ·
    have c3_ := c3
    try simp only [sB] at c3
    refine w_skip ?_
    refine q_block ?_
    refine q_then ?_
    refine w_seq ?_
    refine w_R ?_
    refine qm hnt rfl rfl ?_
    refine qo hnt rfl (s_fa_ptr tab_27 rfl rfl tab_3 (by decide) rfl ?_)
    refine qo hnt rfl (s_load_ptr1 tab_3 rfl rfl rfl rfl rfl ?_)
    refine qo hnt rfl (s_callX (r2 := PV.ref 2 0 none) (nx1 := 3) (H2 := [(1,oB false 1 enc8 [u8I r.fn]),(0,.obj [pI r.fn,pI r.at_,pI r.count,pI r.wAt,pI r.sub,pS 1 false encBo r.bits,pS 1 false enc16 r.vals,p16 r.and_,p16 r.or_])]) (H3 := [(2,oB true 1 enc8 ([u8I r.fn] ++ put2 r.at_)),(1,oB false 1 enc8 [u8I r.fn]),(0,.obj [pI r.fn,pI r.at_,pI r.count,pI r.wAt,pI r.sub,pS 1 false encBo r.bits,pS 1 false enc16 r.vals,p16 r.and_,p16 r.or_])]) [] [] rfl rfl rfl (handed_of (by decide) trivial) rfl rfl rfl rfl rfl rfl (w_octet_Put [u8I r.fn] false r.at_ (by first|omega|assumption|(simp; omega)|decide|(simp; done))) rfl (dist_of rfl) rfl rfl rfl rfl ?_)
    refine qa hnt rfl rfl ?_
    refine r_set [(1,PV.ptr 0 0),(5,PV.ref 2 0 none)] [(2,oB true 1 enc8 ([u8I r.fn] ++ put2 r.at_)),(1,oB false 1 enc8 [u8I r.fn]),(0,.obj [pI r.fn,pI r.at_,pI r.count,pI r.wAt,pI r.sub,pS 1 false encBo r.bits,pS 1 false enc16 r.vals,p16 r.and_,p16 r.or_])] 3 ⟨rfl,rfl,trivial⟩ rfl rfl ?_
    refine r_end ?_
    refine q_then ?_
    refine w_seq ?_
    refine w_seq ?_
    refine w_R ?_
    refine qo hnt rfl (s_fa_ptr tab_27 rfl rfl tab_3 (by decide) rfl ?_)
    refine qo hnt rfl (s_load_ptr1 tab_3 rfl rfl rfl rfl rfl ?_)
    refine r_end ?_
    refine q_then ?_
    refine w_block ?_
    refine w_seq ?_
    refine w_R ?_
    refine qo hnt rfl (s_eql rfl rfl ?_)
    refine qa hnt rfl rfl ?_
    refine r_end ?_
    refine q_then ?_
    refine w_if rfl (fun c4 => ?_) (fun c4 => ?_)
    ·
     have c4_ := c4
     try simp only [sB] at c4
     refine w_seq ?_
     refine w_R ?_
     refine qa hnt rfl rfl ?_
     refine r_end ?_
     refine q_then ?_
     refine w_seq ?_
     refine w_seq ?_
     rw [if_pos (by omega)] at h5b
     refine w_R ?_
     refine qo hnt rfl (s_fa_ptr tab_27 rfl rfl tab_23 (by decide) rfl ?_)
     refine qo hnt rfl (s_load_ptr1 tab_23 rfl rfl rfl rfl rfl ?_)
     obtain ⟨e1,he1⟩ := get_of_lt r.bits (i := 0) (by omega)
     refine qo hnt rfl (s_iaM (q := 0) (b := e1) (f := encBo) tab_23 rfl tab_4 rfl rfl (by omega) rfl he1 ?_)
     refine qo hnt rfl (s_load_ro1 tab_4 rfl rfl rfl rfl ?_)
     refine r_end ?_
     refine q_then ?_
     refine w_if rfl (fun c5 => ?_) (fun c5 => ?_)
     ·
      have c5_ := c5
      try simp only [sB] at c5
      refine w_R ?_
      refine qa hnt rfl rfl ?_
      refine r_end ?_
      refine q_then ?_
      refine w_seq ?_
      refine w_R ?_
      refine qm hnt rfl rfl ?_
      refine qm hnt rfl rfl ?_
      refine qo hnt rfl (s_callX (r2 := PV.ref 3 0 none) (nx1 := 4) (H2 := [(2,oB false 1 enc8 ([u8I r.fn] ++ put2 r.at_)),(1,oB false 1 enc8 [u8I r.fn]),(0,.obj [pI r.fn,pI r.at_,pI r.count,pI r.wAt,pI r.sub,pS 1 false encBo r.bits,pS 1 false enc16 r.vals,p16 r.and_,p16 r.or_])]) (H3 := [(3,oB true 1 enc8 (([u8I r.fn] ++ put2 r.at_) ++ put2 65280)),(2,oB false 1 enc8 ([u8I r.fn] ++ put2 r.at_)),(1,oB false 1 enc8 [u8I r.fn]),(0,.obj [pI r.fn,pI r.at_,pI r.count,pI r.wAt,pI r.sub,pS 1 false encBo r.bits,pS 1 false enc16 r.vals,p16 r.and_,p16 r.or_])]) [] [] rfl rfl rfl (handed_of (by decide) trivial) rfl rfl rfl rfl rfl rfl (w_octet_Put ([u8I r.fn] ++ put2 r.at_) false 65280 (by first|omega|assumption|(simp; omega)|decide|(simp; done))) rfl (dist_of rfl) rfl rfl rfl rfl ?_)
      refine qa hnt rfl rfl ?_
      refine qa hnt rfl rfl ?_
      refine r_set [(2,PV.ref 3 0 none),(3,pI 0)] [(3,oB true 1 enc8 (([u8I r.fn] ++ put2 r.at_) ++ put2 65280)),(2,oB false 1 enc8 ([u8I r.fn] ++ put2 r.at_)),(1,oB false 1 enc8 [u8I r.fn]),(0,.obj [pI r.fn,pI r.at_,pI r.count,pI r.wAt,pI r.sub,pS 1 false encBo r.bits,pS 1 false enc16 r.vals,p16 r.and_,p16 r.or_])] 4 ⟨rfl,rfl,trivial⟩ rfl rfl ?_
      refine r_end ?_
      refine q_then ?_
      refine w_frzM (s := 2) (f := enc8) rfl rfl view_0 ?_
      refine w_le (s := 2) (y := pS 1 false enc8 (bytesR r)) rfl (le_of_eq (congrArg (fun z => pS 1 false enc8 z) (show (([u8I r.fn] ++ put2 r.at_) ++ put2 65280) = (bytesR r) by first|(rw [bytesR_no (by first|assumption|simpa using c1_)]; done)|(rw [hbr,writeR_no (by omega)]; done)|(rw [hbr,writeR_1 (by omega)]; simp; done)|(rw [hbr,writeR_15 (by omega)]; simp; done)|(rw [hbr,writeR_16 (by omega)]; simp; done)|(rw [hbr,writeR_22 (by omega)]; simp; done)|(rw [hbr,writeR_23 (by omega)]; simp; done)|(rw [hbr,writeR_5 (by omega) (by assumption)]; simp [*]; done)|(rw [hbr,writeR_8 (e := v1) (by omega) (by rw [hv1]; rfl),hv1,bytes_one]; simp; done)|(rw [hbr,writeR_6 (e := v1) (by omega) (by rw [hv1]; rfl),hv1,bytes_one]; simp; done)|simp [*]))) ?_
      refine w_le (s := 3) (y := pI (rightR r)) rfl (le_of_eq (congrArg (fun z : Int => pI z) (show 0 = (rightR r) by first|(rw [bytesR_no (by first|assumption|simpa using c1_)]; done)|(rw [hbr,writeR_no (by omega)]; done)|(rw [hbr,writeR_1 (by omega)]; simp; done)|(rw [hbr,writeR_15 (by omega)]; simp; done)|(rw [hbr,writeR_16 (by omega)]; simp; done)|(rw [hbr,writeR_22 (by omega)]; simp; done)|(rw [hbr,writeR_23 (by omega)]; simp; done)|(rw [hbr,writeR_5 (by omega) (by assumption)]; simp [*]; done)|(rw [hbr,writeR_8 (e := v1) (by omega) (by rw [hv1]; rfl),hv1,bytes_one]; simp; done)|(rw [hbr,writeR_6 (e := v1) (by omega) (by rw [hv1]; rfl),hv1,bytes_one]; simp; done)|simp [*]))) ?_
      refine w_ret ?_
      refine q_block_ret ?_
      refine q_then_ret ?_
      exact fin_plain (ret_tmp rfl (ret_tmp rfl ret_nil)) rfl rfl ⟨rfl,rfl,rfl⟩
     ·
      have c5_ := c5
      try simp only [sB] at c5
      refine w_skip ?_
      refine q_then ?_
      refine w_seq ?_
      refine w_R ?_
      refine qm hnt rfl rfl ?_
      refine qm hnt rfl rfl ?_
      refine qo hnt rfl (s_callX (r2 := PV.ref 3 0 none) (nx1 := 4) (H2 := [(2,oB false 1 enc8 ([u8I r.fn] ++ put2 r.at_)),(1,oB false 1 enc8 [u8I r.fn]),(0,.obj [pI r.fn,pI r.at_,pI r.count,pI r.wAt,pI r.sub,pS 1 false encBo r.bits,pS 1 false enc16 r.vals,p16 r.and_,p16 r.or_])]) (H3 := [(3,oB true 1 enc8 (([u8I r.fn] ++ put2 r.at_) ++ put2 0)),(2,oB false 1 enc8 ([u8I r.fn] ++ put2 r.at_)),(1,oB false 1 enc8 [u8I r.fn]),(0,.obj [pI r.fn,pI r.at_,pI r.count,pI r.wAt,pI r.sub,pS 1 false encBo r.bits,pS 1 false enc16 r.vals,p16 r.and_,p16 r.or_])]) [] [] rfl rfl rfl (handed_of (by decide) trivial) rfl rfl rfl rfl rfl rfl (w_octet_Put ([u8I r.fn] ++ put2 r.at_) false 0 (by first|omega|assumption|(simp; omega)|decide|(simp; done))) rfl (dist_of rfl) rfl rfl rfl rfl ?_)
      refine qa hnt rfl rfl ?_
      refine qa hnt rfl rfl ?_
      refine r_set [(2,PV.ref 3 0 none),(3,pI 0)] [(3,oB true 1 enc8 (([u8I r.fn] ++ put2 r.at_) ++ put2 0)),(2,oB false 1 enc8 ([u8I r.fn] ++ put2 r.at_)),(1,oB false 1 enc8 [u8I r.fn]),(0,.obj [pI r.fn,pI r.at_,pI r.count,pI r.wAt,pI r.sub,pS 1 false encBo r.bits,pS 1 false enc16 r.vals,p16 r.and_,p16 r.or_])] 4 ⟨rfl,rfl,trivial⟩ rfl rfl ?_
      refine r_end ?_
      refine q_then ?_
      refine w_frzM (s := 2) (f := enc8) rfl rfl view_0 ?_
      refine w_le (s := 2) (y := pS 1 false enc8 (bytesR r)) rfl (le_of_eq (congrArg (fun z => pS 1 false enc8 z) (show (([u8I r.fn] ++ put2 r.at_) ++ put2 0) = (bytesR r) by first|(rw [bytesR_no (by first|assumption|simpa using c1_)]; done)|(rw [hbr,writeR_no (by omega)]; done)|(rw [hbr,writeR_1 (by omega)]; simp; done)|(rw [hbr,writeR_15 (by omega)]; simp; done)|(rw [hbr,writeR_16 (by omega)]; simp; done)|(rw [hbr,writeR_22 (by omega)]; simp; done)|(rw [hbr,writeR_23 (by omega)]; simp; done)|(rw [hbr,writeR_5 (by omega) (by assumption)]; simp [*]; done)|(rw [hbr,writeR_8 (e := v1) (by omega) (by rw [hv1]; rfl),hv1,bytes_one]; simp; done)|(rw [hbr,writeR_6 (e := v1) (by omega) (by rw [hv1]; rfl),hv1,bytes_one]; simp; done)|simp [*]))) ?_
      refine w_le (s := 3) (y := pI (rightR r)) rfl (le_of_eq (congrArg (fun z : Int => pI z) (show 0 = (rightR r) by first|(rw [bytesR_no (by first|assumption|simpa using c1_)]; done)|(rw [hbr,writeR_no (by omega)]; done)|(rw [hbr,writeR_1 (by omega)]; simp; done)|(rw [hbr,writeR_15 (by omega)]; simp; done)|(rw [hbr,writeR_16 (by omega)]; simp; done)|(rw [hbr,writeR_22 (by omega)]; simp; done)|(rw [hbr,writeR_23 (by omega)]; simp; done)|(rw [hbr,writeR_5 (by omega) (by assumption)]; simp [*]; done)|(rw [hbr,writeR_8 (e := v1) (by omega) (by rw [hv1]; rfl),hv1,bytes_one]; simp; done)|(rw [hbr,writeR_6 (e := v1) (by omega) (by rw [hv1]; rfl),hv1,bytes_one]; simp; done)|simp [*]))) ?_
      refine w_ret ?_
      refine q_block_ret ?_
      refine q_then_ret ?_
      exact fin_plain (ret_tmp rfl (ret_tmp rfl ret_nil)) rfl rfl ⟨rfl,rfl,rfl⟩
    ·
     have c4_ := c4
     try simp only [sB] at c4
     refine w_seq ?_
     refine w_R ?_
     refine qo hnt rfl (s_eql rfl rfl ?_)
     refine qa hnt rfl rfl ?_
     refine r_end ?_
     refine q_then ?_
     refine w_if rfl (fun c6 => ?_) (fun c6 => ?_)
     ·
      have c6_ := c6
      try simp only [sB] at c6
      refine w_seq ?_
      obtain ⟨v1,hv1⟩ := vals_one (l := r.vals) (by rw [if_pos (by omega)] at h6b; exact h6b)
      refine w_R ?_
      refine qm hnt rfl rfl ?_
      refine qo hnt rfl (s_fa_ptr tab_27 rfl rfl tab_24 (by decide) rfl ?_)
      refine qo hnt rfl (s_load_ptr1 tab_24 rfl rfl rfl rfl rfl ?_)
      refine qo hnt rfl (s_callX (r2 := PV.ref 3 0 none) (nx1 := 4) (H2 := [(2,oB true 1 enc8 ([u8I r.fn] ++ put2 r.at_)),(1,oB false 1 enc8 [u8I r.fn]),(0,.obj [pI r.fn,pI r.at_,pI r.count,pI r.wAt,pI r.sub,pS 1 false encBo r.bits,pS 1 false enc16 r.vals,p16 r.and_,p16 r.or_])]) (H3 := [(3,oB true 1 enc8 (bytesL r.vals)),(2,oB true 1 enc8 ([u8I r.fn] ++ put2 r.at_)),(1,oB false 1 enc8 [u8I r.fn]),(0,.obj [pI r.fn,pI r.at_,pI r.count,pI r.wAt,pI r.sub,pS 1 false encBo r.bits,pS 1 false enc16 r.vals,p16 r.and_,p16 r.or_])]) [] [] rfl rfl rfl (handed_of (by decide) trivial) rfl rfl rfl rfl rfl rfl (w_octet_Bytes r.vals false (by first|omega|assumption|(simp; omega)|decide|(simp; done))) rfl (dist_of rfl) rfl rfl rfl rfl ?_)
      refine qo hnt rfl (s_appR0 (f := enc8) (l := [u8I r.fn] ++ put2 r.at_) (xs := bytesL r.vals) tab_34 rfl tab_5 ⟨rfl,by decide,by decide⟩ (srcM tab_34 rfl (hM_ref0 (f := enc8) rfl rfl)) rfl rfl (by first|omega|(simp; omega)) ?_)
      refine qa hnt rfl rfl ?_
      refine qa hnt rfl rfl ?_
      refine r_set [(2,PV.ref 4 0 none),(3,pI 0)] [(4,oB true 1 enc8 (([u8I r.fn] ++ put2 r.at_) ++ (bytesL r.vals))),(3,oB true 1 enc8 (bytesL r.vals)),(1,oB false 1 enc8 [u8I r.fn]),(0,.obj [pI r.fn,pI r.at_,pI r.count,pI r.wAt,pI r.sub,pS 1 false encBo r.bits,pS 1 false enc16 r.vals,p16 r.and_,p16 r.or_])] 5 ⟨rfl,rfl,trivial⟩ rfl rfl ?_
      refine r_end ?_
      refine q_then ?_
      refine w_frzM (s := 2) (f := enc8) rfl rfl view_0 ?_
      refine w_le (s := 2) (y := pS 1 false enc8 (bytesR r)) rfl (le_of_eq (congrArg (fun z => pS 1 false enc8 z) (show (([u8I r.fn] ++ put2 r.at_) ++ (bytesL r.vals)) = (bytesR r) by first|(rw [bytesR_no (by first|assumption|simpa using c1_)]; done)|(rw [hbr,writeR_no (by omega)]; done)|(rw [hbr,writeR_1 (by omega)]; simp; done)|(rw [hbr,writeR_15 (by omega)]; simp; done)|(rw [hbr,writeR_16 (by omega)]; simp; done)|(rw [hbr,writeR_22 (by omega)]; simp; done)|(rw [hbr,writeR_23 (by omega)]; simp; done)|(rw [hbr,writeR_5 (by omega) (by assumption)]; simp [*]; done)|(rw [hbr,writeR_8 (e := v1) (by omega) (by rw [hv1]; rfl),hv1,bytes_one]; simp; done)|(rw [hbr,writeR_6 (e := v1) (by omega) (by rw [hv1]; rfl),hv1,bytes_one]; simp; done)|simp [*]))) ?_
      refine w_le (s := 3) (y := pI (rightR r)) rfl (le_of_eq (congrArg (fun z : Int => pI z) (show 0 = (rightR r) by first|(rw [bytesR_no (by first|assumption|simpa using c1_)]; done)|(rw [hbr,writeR_no (by omega)]; done)|(rw [hbr,writeR_1 (by omega)]; simp; done)|(rw [hbr,writeR_15 (by omega)]; simp; done)|(rw [hbr,writeR_16 (by omega)]; simp; done)|(rw [hbr,writeR_22 (by omega)]; simp; done)|(rw [hbr,writeR_23 (by omega)]; simp; done)|(rw [hbr,writeR_5 (by omega) (by assumption)]; simp [*]; done)|(rw [hbr,writeR_8 (e := v1) (by omega) (by rw [hv1]; rfl),hv1,bytes_one]; simp; done)|(rw [hbr,writeR_6 (e := v1) (by omega) (by rw [hv1]; rfl),hv1,bytes_one]; simp; done)|simp [*]))) ?_
      refine w_ret ?_
      refine q_block_ret ?_
      refine q_then_ret ?_
      exact fin_plain (ret_tmp rfl (ret_tmp rfl ret_nil)) rfl rfl ⟨rfl,rfl,rfl⟩
     ·
      have c6_ := c6
      try simp only [sB] at c6
      refine w_seq ?_
      refine w_R ?_
      refine qo hnt rfl (s_eql rfl rfl ?_)
      refine qa hnt rfl rfl ?_
      refine r_end ?_
      refine q_then ?_
      refine w_if rfl (fun c7 => ?_) (fun c7 => ?_)
      ·
       have c7_ := c7
       try simp only [sB] at c7
       refine w_seq ?_
       refine W_drawn tabOk mixed hnt [[],[],[1],[1,2],[0,1,2,3],[],[5],[5,6],[0,1,2,3,4,5,6,7],[0,1,2,3,4,5,6,7,8],[0,1,2,3,4,5,6,7,8,9]] (by kernel_rfl) ?_
       refine d_op ?_
       refine x_run0 [(5,PV.ref 2 0 none)] [] rfl rfl rfl rfl (s_move rfl ⟨rfl,rfl,rfl⟩) ?_
       refine d_op ?_
       refine x_run0 [(1,PV.ptr 0 0)] [] rfl rfl rfl rfl (s_fa_ptr tab_27 rfl rfl tab_25 (by decide) rfl ⟨rfl,rfl,rfl⟩) ?_
       refine d_op ?_
       refine x_run [(56,PV.ptr 0 7)] [1] [(0,.obj [pI r.fn,pI r.at_,pI r.count,pI r.wAt,pI r.sub,pS 1 false encBo r.bits,pS 1 false enc16 r.vals,p16 r.and_,p16 r.or_])] [] [(0,.obj [pI r.fn,pI r.at_,pI r.count,pI r.wAt,pI r.sub,pS 1 false encBo r.bits,pS 1 false enc16 r.vals,p16 r.and_,p16 r.or_])] [] [(2,oB true 1 enc8 ([u8I r.fn] ++ put2 r.at_)),(1,oB false 1 enc8 [u8I r.fn]),(0,.obj [pI r.fn,pI r.at_,pI r.count,pI r.wAt,pI r.sub,pS 1 false encBo r.bits,pS 1 false enc16 r.vals,p16 r.and_,p16 r.or_])] rfl rfl rfl rfl rfl rfl (s_load_ptr1 tab_25 rfl rfl rfl rfl rfl ⟨rfl,rfl,rfl⟩) rfl ⟨rfl,trivial⟩ rfl rfl ?_
       refine d_op ?_
       refine x_run0 [(57,p16 r.and_)] [1,2] rfl rfl rfl rfl (s_cvN (a := UInt16.toNat r.and_) tab_25 tab_3 rfl rfl rfl (by omega) (by have := lt16 r.and_; omega) ⟨rfl,rfl,rfl⟩) ?_
       refine d_op ?_
       refine x_run [(55,PV.ref 2 0 none),(58,pN (UInt16.toNat r.and_))] [0,1,2,3] [] [(2,oB true 1 enc8 ([u8I r.fn] ++ put2 r.at_))] [(3,oB true 1 enc8 (([u8I r.fn] ++ put2 r.at_) ++ put2 ((UInt16.toNat r.and_ : Nat) : Int))),(2,oB false 1 enc8 ([u8I r.fn] ++ put2 r.at_))] [(3,oB true 1 enc8 (([u8I r.fn] ++ put2 r.at_) ++ put2 ((UInt16.toNat r.and_ : Nat) : Int))),(2,oB false 1 enc8 ([u8I r.fn] ++ put2 r.at_))] [(3,oB true 1 enc8 (([u8I r.fn] ++ put2 r.at_) ++ put2 ((UInt16.toNat r.and_ : Nat) : Int))),(2,oB false 1 enc8 ([u8I r.fn] ++ put2 r.at_)),(1,oB false 1 enc8 [u8I r.fn]),(0,.obj [pI r.fn,pI r.at_,pI r.count,pI r.wAt,pI r.sub,pS 1 false encBo r.bits,pS 1 false enc16 r.vals,p16 r.and_,p16 r.or_])] rfl rfl rfl rfl rfl rfl (s_callX (r2 := PV.ref 3 0 none) (nx1 := 4) (H2 := [(2,oB false 1 enc8 ([u8I r.fn] ++ put2 r.at_))]) (H3 := [(3,oB true 1 enc8 (([u8I r.fn] ++ put2 r.at_) ++ put2 ((UInt16.toNat r.and_ : Nat) : Int))),(2,oB false 1 enc8 ([u8I r.fn] ++ put2 r.at_))]) [] [] rfl rfl rfl (handed_of (by decide) trivial) rfl rfl rfl rfl rfl rfl (w_octet_Put ([u8I r.fn] ++ put2 r.at_) false ((UInt16.toNat r.and_ : Nat) : Int) (by first|omega|assumption|(simp; omega)|decide|(simp; done))) rfl (dist_of rfl) rfl rfl rfl rfl ⟨rfl,rfl,rfl⟩) rfl trivial rfl rfl ?_
       refine d_op ?_
       refine x_run0 [(1,PV.ptr 0 0)] [] rfl rfl rfl rfl (s_fa_ptr tab_27 rfl rfl tab_25 (by decide) rfl ⟨rfl,rfl,rfl⟩) ?_
       refine d_op ?_
       refine x_run [(60,PV.ptr 0 8)] [5] [(0,.obj [pI r.fn,pI r.at_,pI r.count,pI r.wAt,pI r.sub,pS 1 false encBo r.bits,pS 1 false enc16 r.vals,p16 r.and_,p16 r.or_])] [] [(0,.obj [pI r.fn,pI r.at_,pI r.count,pI r.wAt,pI r.sub,pS 1 false encBo r.bits,pS 1 false enc16 r.vals,p16 r.and_,p16 r.or_])] [] [(3,oB true 1 enc8 (([u8I r.fn] ++ put2 r.at_) ++ put2 ((UInt16.toNat r.and_ : Nat) : Int))),(2,oB false 1 enc8 ([u8I r.fn] ++ put2 r.at_)),(1,oB false 1 enc8 [u8I r.fn]),(0,.obj [pI r.fn,pI r.at_,pI r.count,pI r.wAt,pI r.sub,pS 1 false encBo r.bits,pS 1 false enc16 r.vals,p16 r.and_,p16 r.or_])] rfl rfl rfl rfl rfl rfl (s_load_ptr1 tab_25 rfl rfl rfl rfl rfl ⟨rfl,rfl,rfl⟩) rfl ⟨rfl,trivial⟩ rfl rfl ?_
       refine d_op ?_
       refine x_run0 [(61,p16 r.or_)] [5,6] rfl rfl rfl rfl (s_cvN (a := UInt16.toNat r.or_) tab_25 tab_3 rfl rfl rfl (by omega) (by have := lt16 r.or_; omega) ⟨rfl,rfl,rfl⟩) ?_
       refine d_op ?_
       refine x_run [(59,PV.ref 3 0 none),(62,pN (UInt16.toNat r.or_))] [0,1,2,3,4,5,6,7] [] [(3,oB true 1 enc8 (([u8I r.fn] ++ put2 r.at_) ++ put2 ((UInt16.toNat r.and_ : Nat) : Int)))] [(4,oB true 1 enc8 ((([u8I r.fn] ++ put2 r.at_) ++ put2 ((UInt16.toNat r.and_ : Nat) : Int)) ++ put2 ((UInt16.toNat r.or_ : Nat) : Int))),(3,oB false 1 enc8 (([u8I r.fn] ++ put2 r.at_) ++ put2 ((UInt16.toNat r.and_ : Nat) : Int)))] [(4,oB true 1 enc8 ((([u8I r.fn] ++ put2 r.at_) ++ put2 ((UInt16.toNat r.and_ : Nat) : Int)) ++ put2 ((UInt16.toNat r.or_ : Nat) : Int))),(3,oB false 1 enc8 (([u8I r.fn] ++ put2 r.at_) ++ put2 ((UInt16.toNat r.and_ : Nat) : Int)))] [(4,oB true 1 enc8 ((([u8I r.fn] ++ put2 r.at_) ++ put2 ((UInt16.toNat r.and_ : Nat) : Int)) ++ put2 ((UInt16.toNat r.or_ : Nat) : Int))),(3,oB false 1 enc8 (([u8I r.fn] ++ put2 r.at_) ++ put2 ((UInt16.toNat r.and_ : Nat) : Int))),(2,oB false 1 enc8 ([u8I r.fn] ++ put2 r.at_)),(1,oB false 1 enc8 [u8I r.fn]),(0,.obj [pI r.fn,pI r.at_,pI r.count,pI r.wAt,pI r.sub,pS 1 false encBo r.bits,pS 1 false enc16 r.vals,p16 r.and_,p16 r.or_])] rfl rfl rfl rfl rfl rfl (s_callX (r2 := PV.ref 4 0 none) (nx1 := 5) (H2 := [(3,oB false 1 enc8 (([u8I r.fn] ++ put2 r.at_) ++ put2 ((UInt16.toNat r.and_ : Nat) : Int)))]) (H3 := [(4,oB true 1 enc8 ((([u8I r.fn] ++ put2 r.at_) ++ put2 ((UInt16.toNat r.and_ : Nat) : Int)) ++ put2 ((UInt16.toNat r.or_ : Nat) : Int))),(3,oB false 1 enc8 (([u8I r.fn] ++ put2 r.at_) ++ put2 ((UInt16.toNat r.and_ : Nat) : Int)))]) [] [] rfl rfl rfl (handed_of (by decide) trivial) rfl rfl rfl rfl rfl rfl (w_octet_Put (([u8I r.fn] ++ put2 r.at_) ++ put2 ((UInt16.toNat r.and_ : Nat) : Int)) false ((UInt16.toNat r.or_ : Nat) : Int) (by first|omega|assumption|(simp; omega)|decide|(simp; done))) rfl (dist_of rfl) rfl rfl rfl rfl ⟨rfl,rfl,rfl⟩) rfl trivial rfl rfl ?_
       refine d_op ?_
       refine x_run0 [(63,PV.ref 4 0 none)] [0,1,2,3,4,5,6,7,8] rfl rfl rfl rfl (s_assign rfl ⟨rfl,rfl,rfl⟩) ?_
       refine d_op ?_
       refine x_run0 [] [0,1,2,3,4,5,6,7,8,9] rfl rfl rfl rfl (s_assign rfl ⟨rfl,rfl,rfl⟩) ?_
       refine d_end ⟨by kernel_rfl, ?_⟩
       refine q_then ?_
       refine w_frzM (s := 2) (f := enc8) rfl rfl view_0 ?_
       refine w_le (s := 2) (y := pS 1 false enc8 (bytesR r)) rfl (le_of_eq (congrArg (fun z => pS 1 false enc8 z) (show ((([u8I r.fn] ++ put2 r.at_) ++ put2 ((UInt16.toNat r.and_ : Nat) : Int)) ++ put2 ((UInt16.toNat r.or_ : Nat) : Int)) = (bytesR r) by first|(rw [bytesR_no (by first|assumption|simpa using c1_)]; done)|(rw [hbr,writeR_no (by omega)]; done)|(rw [hbr,writeR_1 (by omega)]; simp; done)|(rw [hbr,writeR_15 (by omega)]; simp; done)|(rw [hbr,writeR_16 (by omega)]; simp; done)|(rw [hbr,writeR_22 (by omega)]; simp; done)|(rw [hbr,writeR_23 (by omega)]; simp; done)|(rw [hbr,writeR_5 (by omega) (by assumption)]; simp [*]; done)|(rw [hbr,writeR_8 (e := v1) (by omega) (by rw [hv1]; rfl),hv1,bytes_one]; simp; done)|(rw [hbr,writeR_6 (e := v1) (by omega) (by rw [hv1]; rfl),hv1,bytes_one]; simp; done)|simp [*]))) ?_
       refine w_le (s := 3) (y := pI (rightR r)) rfl (le_of_eq (congrArg (fun z : Int => pI z) (show 0 = (rightR r) by first|(rw [bytesR_no (by first|assumption|simpa using c1_)]; done)|(rw [hbr,writeR_no (by omega)]; done)|(rw [hbr,writeR_1 (by omega)]; simp; done)|(rw [hbr,writeR_15 (by omega)]; simp; done)|(rw [hbr,writeR_16 (by omega)]; simp; done)|(rw [hbr,writeR_22 (by omega)]; simp; done)|(rw [hbr,writeR_23 (by omega)]; simp; done)|(rw [hbr,writeR_5 (by omega) (by assumption)]; simp [*]; done)|(rw [hbr,writeR_8 (e := v1) (by omega) (by rw [hv1]; rfl),hv1,bytes_one]; simp; done)|(rw [hbr,writeR_6 (e := v1) (by omega) (by rw [hv1]; rfl),hv1,bytes_one]; simp; done)|simp [*]))) ?_
       refine w_ret ?_
       refine q_block_ret ?_
       refine q_then_ret ?_
       exact fin_plain (ret_tmp rfl (ret_tmp rfl ret_nil)) rfl rfl ⟨rfl,rfl,rfl⟩
      ·
       have c7_ := c7
       try simp only [sB] at c7
       refine w_skip ?_
       refine q_block ?_
       refine q_then ?_
       refine w_seq ?_
       refine w_R ?_
       refine qm hnt rfl rfl ?_
       refine qo hnt rfl (s_fa_ptr tab_27 rfl rfl tab_3 (by decide) rfl ?_)
       refine qo hnt rfl (s_load_ptr1 tab_3 rfl rfl rfl rfl rfl ?_)
       refine qo hnt rfl (s_callX (r2 := PV.ref 3 0 none) (nx1 := 4) (H2 := [(2,oB false 1 enc8 ([u8I r.fn] ++ put2 r.at_)),(1,oB false 1 enc8 [u8I r.fn]),(0,.obj [pI r.fn,pI r.at_,pI r.count,pI r.wAt,pI r.sub,pS 1 false encBo r.bits,pS 1 false enc16 r.vals,p16 r.and_,p16 r.or_])]) (H3 := [(3,oB true 1 enc8 (([u8I r.fn] ++ put2 r.at_) ++ put2 r.count)),(2,oB false 1 enc8 ([u8I r.fn] ++ put2 r.at_)),(1,oB false 1 enc8 [u8I r.fn]),(0,.obj [pI r.fn,pI r.at_,pI r.count,pI r.wAt,pI r.sub,pS 1 false encBo r.bits,pS 1 false enc16 r.vals,p16 r.and_,p16 r.or_])]) [] [] rfl rfl rfl (handed_of (by decide) trivial) rfl rfl rfl rfl rfl rfl (w_octet_Put ([u8I r.fn] ++ put2 r.at_) false r.count (by first|omega|assumption|(simp; omega)|decide|(simp; done))) rfl (dist_of rfl) rfl rfl rfl rfl ?_)
       refine qa hnt rfl rfl ?_
       refine r_set [(1,PV.ptr 0 0),(5,PV.ref 3 0 none)] [(3,oB true 1 enc8 (([u8I r.fn] ++ put2 r.at_) ++ put2 r.count)),(2,oB false 1 enc8 ([u8I r.fn] ++ put2 r.at_)),(1,oB false 1 enc8 [u8I r.fn]),(0,.obj [pI r.fn,pI r.at_,pI r.count,pI r.wAt,pI r.sub,pS 1 false encBo r.bits,pS 1 false enc16 r.vals,p16 r.and_,p16 r.or_])] 4 ⟨rfl,rfl,trivial⟩ rfl rfl ?_
       refine r_end ?_
       refine q_then ?_
       refine w_seq ?_
       refine w_seq ?_
       refine w_R ?_
       refine qo hnt rfl (s_fa_ptr tab_27 rfl rfl tab_3 (by decide) rfl ?_)
       refine qo hnt rfl (s_load_ptr1 tab_3 rfl rfl rfl rfl rfl ?_)
       refine r_end ?_
       refine q_then ?_
       refine w_block ?_
       refine w_seq ?_
       refine w_R ?_
       refine qo hnt rfl (s_eql rfl rfl ?_)
       refine qa hnt rfl rfl ?_
       refine r_end ?_
       refine q_then ?_
       refine w_if rfl (fun c8 => ?_) (fun c8 => ?_)
       ·
        have c8_ := c8
        try simp only [sB] at c8
        refine w_R ?_
        refine qm hnt rfl rfl ?_
        refine qo hnt rfl (s_fa_ptr tab_27 rfl rfl tab_23 (by decide) rfl ?_)
        refine qo hnt rfl (s_load_ptr1 tab_23 rfl rfl rfl rfl rfl ?_)
        refine qo hnt rfl (s_callX (r2 := PV.ref 4 0 none) (nx1 := 5) (H2 := [(3,oB true 1 enc8 (([u8I r.fn] ++ put2 r.at_) ++ put2 r.count)),(2,oB false 1 enc8 ([u8I r.fn] ++ put2 r.at_)),(1,oB false 1 enc8 [u8I r.fn]),(0,.obj [pI r.fn,pI r.at_,pI r.count,pI r.wAt,pI r.sub,pS 1 false encBo r.bits,pS 1 false enc16 r.vals,p16 r.and_,p16 r.or_])]) (H3 := [(4,oB true 1 enc8 (packL r.bits)),(3,oB true 1 enc8 (([u8I r.fn] ++ put2 r.at_) ++ put2 r.count)),(2,oB false 1 enc8 ([u8I r.fn] ++ put2 r.at_)),(1,oB false 1 enc8 [u8I r.fn]),(0,.obj [pI r.fn,pI r.at_,pI r.count,pI r.wAt,pI r.sub,pS 1 false encBo r.bits,pS 1 false enc16 r.vals,p16 r.and_,p16 r.or_])]) [] [] rfl rfl rfl (handed_of (by decide) trivial) rfl rfl rfl rfl rfl rfl (w_octet_Pack r.bits false (by first|omega|assumption|(simp; omega)|decide|(simp; done))) rfl (dist_of rfl) rfl rfl rfl rfl ?_)
        refine qo hnt rfl (s_callX (r2 := PV.ref 5 0 none) (nx1 := 6) (H2 := [(4,oB false 1 enc8 (packL r.bits)),(3,oB true 1 enc8 (([u8I r.fn] ++ put2 r.at_) ++ put2 r.count)),(2,oB false 1 enc8 ([u8I r.fn] ++ put2 r.at_)),(1,oB false 1 enc8 [u8I r.fn]),(0,.obj [pI r.fn,pI r.at_,pI r.count,pI r.wAt,pI r.sub,pS 1 false encBo r.bits,pS 1 false enc16 r.vals,p16 r.and_,p16 r.or_])]) (H3 := [(5,oB true 1 enc8 (rowX (packL r.bits))),(4,oB false 1 enc8 (packL r.bits)),(3,oB true 1 enc8 (([u8I r.fn] ++ put2 r.at_) ++ put2 r.count)),(2,oB false 1 enc8 ([u8I r.fn] ++ put2 r.at_)),(1,oB false 1 enc8 [u8I r.fn]),(0,.obj [pI r.fn,pI r.at_,pI r.count,pI r.wAt,pI r.sub,pS 1 false encBo r.bits,pS 1 false enc16 r.vals,p16 r.and_,p16 r.or_])]) [] [] rfl rfl rfl (handed_of (by decide) trivial) rfl rfl rfl rfl rfl rfl (w_pdu_counted (packL r.bits) false (by first|omega|assumption|(simp; omega)|decide|(simp; done))) rfl (dist_of rfl) rfl rfl rfl rfl ?_)
        refine qo hnt rfl (s_appR0 (f := enc8) (l := ([u8I r.fn] ++ put2 r.at_) ++ put2 r.count) (xs := rowX (packL r.bits)) tab_34 rfl tab_5 ⟨rfl,by decide,by decide⟩ (srcM tab_34 rfl (hM_ref0 (f := enc8) rfl rfl)) rfl rfl (by first|omega|(simp; omega)) ?_)
        refine qa hnt rfl rfl ?_
        refine r_set [(5,PV.ref 6 0 none)] [(6,oB true 1 enc8 ((([u8I r.fn] ++ put2 r.at_) ++ put2 r.count) ++ (rowX (packL r.bits)))),(5,oB true 1 enc8 (rowX (packL r.bits))),(4,oB false 1 enc8 (packL r.bits)),(2,oB false 1 enc8 ([u8I r.fn] ++ put2 r.at_)),(1,oB false 1 enc8 [u8I r.fn]),(0,.obj [pI r.fn,pI r.at_,pI r.count,pI r.wAt,pI r.sub,pS 1 false encBo r.bits,pS 1 false enc16 r.vals,p16 r.and_,p16 r.or_])] 7 ⟨rfl,trivial⟩ rfl rfl ?_
        refine r_end ?_
        refine q_block ?_
        refine q_then ?_
        refine w_seq ?_
        refine w_R ?_
        refine qm hnt rfl rfl ?_
        refine qo hnt rfl (s_callX (r2 := pS 1 true enc8 ((([u8I r.fn] ++ put2 r.at_) ++ put2 r.count) ++ (rowX (packL r.bits)))) (nx1 := 7) (H2 := [(6,oB false 1 enc8 ((([u8I r.fn] ++ put2 r.at_) ++ put2 r.count) ++ (rowX (packL r.bits)))),(5,oB true 1 enc8 (rowX (packL r.bits))),(4,oB false 1 enc8 (packL r.bits)),(2,oB false 1 enc8 ([u8I r.fn] ++ put2 r.at_)),(1,oB false 1 enc8 [u8I r.fn]),(0,.obj [pI r.fn,pI r.at_,pI r.count,pI r.wAt,pI r.sub,pS 1 false encBo r.bits,pS 1 false enc16 r.vals,p16 r.and_,p16 r.or_])]) (H3 := [(6,oB false 1 enc8 ((([u8I r.fn] ++ put2 r.at_) ++ put2 r.count) ++ (rowX (packL r.bits)))),(5,oB true 1 enc8 (rowX (packL r.bits))),(4,oB false 1 enc8 (packL r.bits)),(2,oB false 1 enc8 ([u8I r.fn] ++ put2 r.at_)),(1,oB false 1 enc8 [u8I r.fn]),(0,.obj [pI r.fn,pI r.at_,pI r.count,pI r.wAt,pI r.sub,pS 1 false encBo r.bits,pS 1 false enc16 r.vals,p16 r.and_,p16 r.or_])]) [] [] rfl rfl rfl (handed_of (by decide) trivial) rfl rfl rfl rfl rfl rfl (w_slices_Clip_byte_byte ((([u8I r.fn] ++ put2 r.at_) ++ put2 r.count) ++ (rowX (packL r.bits))) false) rfl (dist_of rfl) rfl rfl rfl rfl ?_)
        refine qa hnt rfl rfl ?_
        refine qa hnt rfl rfl ?_
        refine r_set [(2,pS 1 true enc8 ((([u8I r.fn] ++ put2 r.at_) ++ put2 r.count) ++ (rowX (packL r.bits)))),(3,pI 0)] [(6,oB false 1 enc8 ((([u8I r.fn] ++ put2 r.at_) ++ put2 r.count) ++ (rowX (packL r.bits)))),(5,oB true 1 enc8 (rowX (packL r.bits))),(4,oB false 1 enc8 (packL r.bits)),(2,oB false 1 enc8 ([u8I r.fn] ++ put2 r.at_)),(1,oB false 1 enc8 [u8I r.fn]),(0,.obj [pI r.fn,pI r.at_,pI r.count,pI r.wAt,pI r.sub,pS 1 false encBo r.bits,pS 1 false enc16 r.vals,p16 r.and_,p16 r.or_])] 7 ⟨rfl,rfl,trivial⟩ rfl rfl ?_
        refine r_end ?_
        refine q_then ?_
        refine w_le (s := 2) (y := pS 1 false enc8 ((([u8I r.fn] ++ put2 r.at_) ++ put2 r.count) ++ (rowX (packL r.bits)))) rfl (le_loose) ?_
        refine w_le (s := 2) (y := pS 1 false enc8 (bytesR r)) rfl (le_of_eq (congrArg (fun z => pS 1 false enc8 z) (show ((([u8I r.fn] ++ put2 r.at_) ++ put2 r.count) ++ (rowX (packL r.bits))) = (bytesR r) by first|(rw [bytesR_no (by first|assumption|simpa using c1_)]; done)|(rw [hbr,writeR_no (by omega)]; done)|(rw [hbr,writeR_1 (by omega)]; simp; done)|(rw [hbr,writeR_15 (by omega)]; simp; done)|(rw [hbr,writeR_16 (by omega)]; simp; done)|(rw [hbr,writeR_22 (by omega)]; simp; done)|(rw [hbr,writeR_23 (by omega)]; simp; done)|(rw [hbr,writeR_5 (by omega) (by assumption)]; simp [*]; done)|(rw [hbr,writeR_8 (e := v1) (by omega) (by rw [hv1]; rfl),hv1,bytes_one]; simp; done)|(rw [hbr,writeR_6 (e := v1) (by omega) (by rw [hv1]; rfl),hv1,bytes_one]; simp; done)|simp [*]))) ?_
        refine w_le (s := 3) (y := pI (rightR r)) rfl (le_of_eq (congrArg (fun z : Int => pI z) (show 0 = (rightR r) by first|(rw [bytesR_no (by first|assumption|simpa using c1_)]; done)|(rw [hbr,writeR_no (by omega)]; done)|(rw [hbr,writeR_1 (by omega)]; simp; done)|(rw [hbr,writeR_15 (by omega)]; simp; done)|(rw [hbr,writeR_16 (by omega)]; simp; done)|(rw [hbr,writeR_22 (by omega)]; simp; done)|(rw [hbr,writeR_23 (by omega)]; simp; done)|(rw [hbr,writeR_5 (by omega) (by assumption)]; simp [*]; done)|(rw [hbr,writeR_8 (e := v1) (by omega) (by rw [hv1]; rfl),hv1,bytes_one]; simp; done)|(rw [hbr,writeR_6 (e := v1) (by omega) (by rw [hv1]; rfl),hv1,bytes_one]; simp; done)|simp [*]))) ?_
        refine w_ret ?_
        exact fin_plain (ret_tmp rfl (ret_tmp rfl ret_nil)) rfl rfl ⟨rfl,rfl,rfl⟩
       ·
        have c8_ := c8
        try simp only [sB] at c8
        refine w_seq ?_
        refine w_R ?_
        refine qo hnt rfl (s_eql rfl rfl ?_)
        refine qa hnt rfl rfl ?_
        refine r_end ?_
        refine q_then ?_
        refine w_if rfl (fun c9 => ?_) (fun c9 => ?_)
        ·
         have c9_ := c9
         try simp only [sB] at c9
         refine w_R ?_
         refine qm hnt rfl rfl ?_
         refine qo hnt rfl (s_fa_ptr tab_27 rfl rfl tab_24 (by decide) rfl ?_)
         refine qo hnt rfl (s_load_ptr1 tab_24 rfl rfl rfl rfl rfl ?_)
         refine qo hnt rfl (s_callX (r2 := PV.ref 4 0 none) (nx1 := 5) (H2 := [(3,oB true 1 enc8 (([u8I r.fn] ++ put2 r.at_) ++ put2 r.count)),(2,oB false 1 enc8 ([u8I r.fn] ++ put2 r.at_)),(1,oB false 1 enc8 [u8I r.fn]),(0,.obj [pI r.fn,pI r.at_,pI r.count,pI r.wAt,pI r.sub,pS 1 false encBo r.bits,pS 1 false enc16 r.vals,p16 r.and_,p16 r.or_])]) (H3 := [(4,oB true 1 enc8 (bytesL r.vals)),(3,oB true 1 enc8 (([u8I r.fn] ++ put2 r.at_) ++ put2 r.count)),(2,oB false 1 enc8 ([u8I r.fn] ++ put2 r.at_)),(1,oB false 1 enc8 [u8I r.fn]),(0,.obj [pI r.fn,pI r.at_,pI r.count,pI r.wAt,pI r.sub,pS 1 false encBo r.bits,pS 1 false enc16 r.vals,p16 r.and_,p16 r.or_])]) [] [] rfl rfl rfl (handed_of (by decide) trivial) rfl rfl rfl rfl rfl rfl (w_octet_Bytes r.vals false (by first|omega|assumption|(simp; omega)|decide|(simp; done))) rfl (dist_of rfl) rfl rfl rfl rfl ?_)
         refine qo hnt rfl (s_callX (r2 := PV.ref 5 0 none) (nx1 := 6) (H2 := [(4,oB false 1 enc8 (bytesL r.vals)),(3,oB true 1 enc8 (([u8I r.fn] ++ put2 r.at_) ++ put2 r.count)),(2,oB false 1 enc8 ([u8I r.fn] ++ put2 r.at_)),(1,oB false 1 enc8 [u8I r.fn]),(0,.obj [pI r.fn,pI r.at_,pI r.count,pI r.wAt,pI r.sub,pS 1 false encBo r.bits,pS 1 false enc16 r.vals,p16 r.and_,p16 r.or_])]) (H3 := [(5,oB true 1 enc8 (rowX (bytesL r.vals))),(4,oB false 1 enc8 (bytesL r.vals)),(3,oB true 1 enc8 (([u8I r.fn] ++ put2 r.at_) ++ put2 r.count)),(2,oB false 1 enc8 ([u8I r.fn] ++ put2 r.at_)),(1,oB false 1 enc8 [u8I r.fn]),(0,.obj [pI r.fn,pI r.at_,pI r.count,pI r.wAt,pI r.sub,pS 1 false encBo r.bits,pS 1 false enc16 r.vals,p16 r.and_,p16 r.or_])]) [] [] rfl rfl rfl (handed_of (by decide) trivial) rfl rfl rfl rfl rfl rfl (w_pdu_counted (bytesL r.vals) false (by first|omega|assumption|(simp; omega)|decide|(simp; done))) rfl (dist_of rfl) rfl rfl rfl rfl ?_)
         refine qo hnt rfl (s_appR0 (f := enc8) (l := ([u8I r.fn] ++ put2 r.at_) ++ put2 r.count) (xs := rowX (bytesL r.vals)) tab_34 rfl tab_5 ⟨rfl,by decide,by decide⟩ (srcM tab_34 rfl (hM_ref0 (f := enc8) rfl rfl)) rfl rfl (by first|omega|(simp; omega)) ?_)
         refine qa hnt rfl rfl ?_
         refine r_set [(5,PV.ref 6 0 none)] [(6,oB true 1 enc8 ((([u8I r.fn] ++ put2 r.at_) ++ put2 r.count) ++ (rowX (bytesL r.vals)))),(5,oB true 1 enc8 (rowX (bytesL r.vals))),(4,oB false 1 enc8 (bytesL r.vals)),(2,oB false 1 enc8 ([u8I r.fn] ++ put2 r.at_)),(1,oB false 1 enc8 [u8I r.fn]),(0,.obj [pI r.fn,pI r.at_,pI r.count,pI r.wAt,pI r.sub,pS 1 false encBo r.bits,pS 1 false enc16 r.vals,p16 r.and_,p16 r.or_])] 7 ⟨rfl,trivial⟩ rfl rfl ?_
         refine r_end ?_
         refine q_block ?_
         refine q_then ?_
         refine w_seq ?_
         refine w_R ?_
         refine qm hnt rfl rfl ?_
         refine qo hnt rfl (s_callX (r2 := pS 1 true enc8 ((([u8I r.fn] ++ put2 r.at_) ++ put2 r.count) ++ (rowX (bytesL r.vals)))) (nx1 := 7) (H2 := [(6,oB false 1 enc8 ((([u8I r.fn] ++ put2 r.at_) ++ put2 r.count) ++ (rowX (bytesL r.vals)))),(5,oB true 1 enc8 (rowX (bytesL r.vals))),(4,oB false 1 enc8 (bytesL r.vals)),(2,oB false 1 enc8 ([u8I r.fn] ++ put2 r.at_)),(1,oB false 1 enc8 [u8I r.fn]),(0,.obj [pI r.fn,pI r.at_,pI r.count,pI r.wAt,pI r.sub,pS 1 false encBo r.bits,pS 1 false enc16 r.vals,p16 r.and_,p16 r.or_])]) (H3 := [(6,oB false 1 enc8 ((([u8I r.fn] ++ put2 r.at_) ++ put2 r.count) ++ (rowX (bytesL r.vals)))),(5,oB true 1 enc8 (rowX (bytesL r.vals))),(4,oB false 1 enc8 (bytesL r.vals)),(2,oB false 1 enc8 ([u8I r.fn] ++ put2 r.at_)),(1,oB false 1 enc8 [u8I r.fn]),(0,.obj [pI r.fn,pI r.at_,pI r.count,pI r.wAt,pI r.sub,pS 1 false encBo r.bits,pS 1 false enc16 r.vals,p16 r.and_,p16 r.or_])]) [] [] rfl rfl rfl (handed_of (by decide) trivial) rfl rfl rfl rfl rfl rfl (w_slices_Clip_byte_byte ((([u8I r.fn] ++ put2 r.at_) ++ put2 r.count) ++ (rowX (bytesL r.vals))) false) rfl (dist_of rfl) rfl rfl rfl rfl ?_)
         refine qa hnt rfl rfl ?_
         refine qa hnt rfl rfl ?_
         refine r_set [(2,pS 1 true enc8 ((([u8I r.fn] ++ put2 r.at_) ++ put2 r.count) ++ (rowX (bytesL r.vals)))),(3,pI 0)] [(6,oB false 1 enc8 ((([u8I r.fn] ++ put2 r.at_) ++ put2 r.count) ++ (rowX (bytesL r.vals)))),(5,oB true 1 enc8 (rowX (bytesL r.vals))),(4,oB false 1 enc8 (bytesL r.vals)),(2,oB false 1 enc8 ([u8I r.fn] ++ put2 r.at_)),(1,oB false 1 enc8 [u8I r.fn]),(0,.obj [pI r.fn,pI r.at_,pI r.count,pI r.wAt,pI r.sub,pS 1 false encBo r.bits,pS 1 false enc16 r.vals,p16 r.and_,p16 r.or_])] 7 ⟨rfl,rfl,trivial⟩ rfl rfl ?_
         refine r_end ?_
         refine q_then ?_
         refine w_le (s := 2) (y := pS 1 false enc8 ((([u8I r.fn] ++ put2 r.at_) ++ put2 r.count) ++ (rowX (bytesL r.vals)))) rfl (le_loose) ?_
         refine w_le (s := 2) (y := pS 1 false enc8 (bytesR r)) rfl (le_of_eq (congrArg (fun z => pS 1 false enc8 z) (show ((([u8I r.fn] ++ put2 r.at_) ++ put2 r.count) ++ (rowX (bytesL r.vals))) = (bytesR r) by first|(rw [bytesR_no (by first|assumption|simpa using c1_)]; done)|(rw [hbr,writeR_no (by omega)]; done)|(rw [hbr,writeR_1 (by omega)]; simp; done)|(rw [hbr,writeR_15 (by omega)]; simp; done)|(rw [hbr,writeR_16 (by omega)]; simp; done)|(rw [hbr,writeR_22 (by omega)]; simp; done)|(rw [hbr,writeR_23 (by omega)]; simp; done)|(rw [hbr,writeR_5 (by omega) (by assumption)]; simp [*]; done)|(rw [hbr,writeR_8 (e := v1) (by omega) (by rw [hv1]; rfl),hv1,bytes_one]; simp; done)|(rw [hbr,writeR_6 (e := v1) (by omega) (by rw [hv1]; rfl),hv1,bytes_one]; simp; done)|simp [*]))) ?_
         refine w_le (s := 3) (y := pI (rightR r)) rfl (le_of_eq (congrArg (fun z : Int => pI z) (show 0 = (rightR r) by first|(rw [bytesR_no (by first|assumption|simpa using c1_)]; done)|(rw [hbr,writeR_no (by omega)]; done)|(rw [hbr,writeR_1 (by omega)]; simp; done)|(rw [hbr,writeR_15 (by omega)]; simp; done)|(rw [hbr,writeR_16 (by omega)]; simp; done)|(rw [hbr,writeR_22 (by omega)]; simp; done)|(rw [hbr,writeR_23 (by omega)]; simp; done)|(rw [hbr,writeR_5 (by omega) (by assumption)]; simp [*]; done)|(rw [hbr,writeR_8 (e := v1) (by omega) (by rw [hv1]; rfl),hv1,bytes_one]; simp; done)|(rw [hbr,writeR_6 (e := v1) (by omega) (by rw [hv1]; rfl),hv1,bytes_one]; simp; done)|simp [*]))) ?_
         refine w_ret ?_
         exact fin_plain (ret_tmp rfl (ret_tmp rfl ret_nil)) rfl rfl ⟨rfl,rfl,rfl⟩
        ·
         have c9_ := c9
         try simp only [sB] at c9
         refine w_seq ?_
         refine w_R ?_
         refine qo hnt rfl (s_eql rfl rfl ?_)
         refine qa hnt rfl rfl ?_
         refine r_end ?_
         refine q_then ?_
         refine w_if rfl (fun c10 => ?_) (fun c10 => ?_)
         ·
          have c10_ := c10
          try simp only [sB] at c10
          refine W_drawn tabOk mixed hnt [[],[],[1],[0,1,2],[],[4],[4,5],[0,1,2,3,4,5,6],[],[8],[0,1,2,3,4,5,6,7,8,9],[0,1,2,3,4,5,6,7,8,9,10],[0,1,2,3,4,5,6,7,8,9,10,11],[0,1,2,3,4,5,6,7,8,9,10,11,12]] (by kernel_rfl) ?_
          refine d_op ?_
          refine x_run0 [(5,PV.ref 3 0 none)] [] rfl rfl rfl rfl (s_move rfl ⟨rfl,rfl,rfl⟩) ?_
          refine d_op ?_
          refine x_run0 [(1,PV.ptr 0 0)] [] rfl rfl rfl rfl (s_fa_ptr tab_27 rfl rfl tab_3 (by decide) rfl ⟨rfl,rfl,rfl⟩) ?_
          refine d_op ?_
          refine x_run [(89,PV.ptr 0 3)] [1] [(0,.obj [pI r.fn,pI r.at_,pI r.count,pI r.wAt,pI r.sub,pS 1 false encBo r.bits,pS 1 false enc16 r.vals,p16 r.and_,p16 r.or_])] [] [(0,.obj [pI r.fn,pI r.at_,pI r.count,pI r.wAt,pI r.sub,pS 1 false encBo r.bits,pS 1 false enc16 r.vals,p16 r.and_,p16 r.or_])] [] [(3,oB true 1 enc8 (([u8I r.fn] ++ put2 r.at_) ++ put2 r.count)),(2,oB false 1 enc8 ([u8I r.fn] ++ put2 r.at_)),(1,oB false 1 enc8 [u8I r.fn]),(0,.obj [pI r.fn,pI r.at_,pI r.count,pI r.wAt,pI r.sub,pS 1 false encBo r.bits,pS 1 false enc16 r.vals,p16 r.and_,p16 r.or_])] rfl rfl rfl rfl rfl rfl (s_load_ptr1 tab_3 rfl rfl rfl rfl rfl ⟨rfl,rfl,rfl⟩) rfl ⟨rfl,trivial⟩ rfl rfl ?_
          refine d_op ?_
          refine x_run [(88,PV.ref 3 0 none),(90,pI r.wAt)] [0,1,2] [] [(3,oB true 1 enc8 (([u8I r.fn] ++ put2 r.at_) ++ put2 r.count))] [(4,oB true 1 enc8 ((([u8I r.fn] ++ put2 r.at_) ++ put2 r.count) ++ put2 r.wAt)),(3,oB false 1 enc8 (([u8I r.fn] ++ put2 r.at_) ++ put2 r.count))] [(4,oB true 1 enc8 ((([u8I r.fn] ++ put2 r.at_) ++ put2 r.count) ++ put2 r.wAt)),(3,oB false 1 enc8 (([u8I r.fn] ++ put2 r.at_) ++ put2 r.count))] [(4,oB true 1 enc8 ((([u8I r.fn] ++ put2 r.at_) ++ put2 r.count) ++ put2 r.wAt)),(3,oB false 1 enc8 (([u8I r.fn] ++ put2 r.at_) ++ put2 r.count)),(2,oB false 1 enc8 ([u8I r.fn] ++ put2 r.at_)),(1,oB false 1 enc8 [u8I r.fn]),(0,.obj [pI r.fn,pI r.at_,pI r.count,pI r.wAt,pI r.sub,pS 1 false encBo r.bits,pS 1 false enc16 r.vals,p16 r.and_,p16 r.or_])] rfl rfl rfl rfl rfl rfl (s_callX (r2 := PV.ref 4 0 none) (nx1 := 5) (H2 := [(3,oB false 1 enc8 (([u8I r.fn] ++ put2 r.at_) ++ put2 r.count))]) (H3 := [(4,oB true 1 enc8 ((([u8I r.fn] ++ put2 r.at_) ++ put2 r.count) ++ put2 r.wAt)),(3,oB false 1 enc8 (([u8I r.fn] ++ put2 r.at_) ++ put2 r.count))]) [] [] rfl rfl rfl (handed_of (by decide) trivial) rfl rfl rfl rfl rfl rfl (w_octet_Put (([u8I r.fn] ++ put2 r.at_) ++ put2 r.count) false r.wAt (by first|omega|assumption|(simp; omega)|decide|(simp; done))) rfl (dist_of rfl) rfl rfl rfl rfl ⟨rfl,rfl,rfl⟩) rfl trivial rfl rfl ?_
          refine d_op ?_
          refine x_run0 [(1,PV.ptr 0 0)] [] rfl rfl rfl rfl (s_fa_ptr tab_27 rfl rfl tab_24 (by decide) rfl ⟨rfl,rfl,rfl⟩) ?_
          refine d_op ?_
          refine x_run [(92,PV.ptr 0 6)] [4] [(0,.obj [pI r.fn,pI r.at_,pI r.count,pI r.wAt,pI r.sub,pS 1 false encBo r.bits,pS 1 false enc16 r.vals,p16 r.and_,p16 r.or_])] [] [(0,.obj [pI r.fn,pI r.at_,pI r.count,pI r.wAt,pI r.sub,pS 1 false encBo r.bits,pS 1 false enc16 r.vals,p16 r.and_,p16 r.or_])] [] [(4,oB true 1 enc8 ((([u8I r.fn] ++ put2 r.at_) ++ put2 r.count) ++ put2 r.wAt)),(3,oB false 1 enc8 (([u8I r.fn] ++ put2 r.at_) ++ put2 r.count)),(2,oB false 1 enc8 ([u8I r.fn] ++ put2 r.at_)),(1,oB false 1 enc8 [u8I r.fn]),(0,.obj [pI r.fn,pI r.at_,pI r.count,pI r.wAt,pI r.sub,pS 1 false encBo r.bits,pS 1 false enc16 r.vals,p16 r.and_,p16 r.or_])] rfl rfl rfl rfl rfl rfl (s_load_ptr1 tab_24 rfl rfl rfl rfl rfl ⟨rfl,rfl,rfl⟩) rfl ⟨rfl,trivial⟩ rfl rfl ?_
          refine d_op ?_
          refine x_run0 [(93,pS 1 false enc16 r.vals)] [4,5] rfl rfl rfl rfl (s_lenM (l := r.vals) tab_24 rfl (hM_sl (f := enc16) rfl) ⟨rfl,rfl,rfl⟩) ?_
          refine d_op ?_
          refine x_run [(91,PV.ref 4 0 none),(94,pN r.vals.length)] [0,1,2,3,4,5,6] [] [(4,oB true 1 enc8 ((([u8I r.fn] ++ put2 r.at_) ++ put2 r.count) ++ put2 r.wAt))] [(5,oB true 1 enc8 (((([u8I r.fn] ++ put2 r.at_) ++ put2 r.count) ++ put2 r.wAt) ++ put2 ((r.vals.length : Nat) : Int))),(4,oB false 1 enc8 ((([u8I r.fn] ++ put2 r.at_) ++ put2 r.count) ++ put2 r.wAt))] [(5,oB true 1 enc8 (((([u8I r.fn] ++ put2 r.at_) ++ put2 r.count) ++ put2 r.wAt) ++ put2 ((r.vals.length : Nat) : Int))),(4,oB false 1 enc8 ((([u8I r.fn] ++ put2 r.at_) ++ put2 r.count) ++ put2 r.wAt))] [(5,oB true 1 enc8 (((([u8I r.fn] ++ put2 r.at_) ++ put2 r.count) ++ put2 r.wAt) ++ put2 ((r.vals.length : Nat) : Int))),(4,oB false 1 enc8 ((([u8I r.fn] ++ put2 r.at_) ++ put2 r.count) ++ put2 r.wAt)),(3,oB false 1 enc8 (([u8I r.fn] ++ put2 r.at_) ++ put2 r.count)),(2,oB false 1 enc8 ([u8I r.fn] ++ put2 r.at_)),(1,oB false 1 enc8 [u8I r.fn]),(0,.obj [pI r.fn,pI r.at_,pI r.count,pI r.wAt,pI r.sub,pS 1 false encBo r.bits,pS 1 false enc16 r.vals,p16 r.and_,p16 r.or_])] rfl rfl rfl rfl rfl rfl (s_callX (r2 := PV.ref 5 0 none) (nx1 := 6) (H2 := [(4,oB false 1 enc8 ((([u8I r.fn] ++ put2 r.at_) ++ put2 r.count) ++ put2 r.wAt))]) (H3 := [(5,oB true 1 enc8 (((([u8I r.fn] ++ put2 r.at_) ++ put2 r.count) ++ put2 r.wAt) ++ put2 ((r.vals.length : Nat) : Int))),(4,oB false 1 enc8 ((([u8I r.fn] ++ put2 r.at_) ++ put2 r.count) ++ put2 r.wAt))]) [] [] rfl rfl rfl (handed_of (by decide) trivial) rfl rfl rfl rfl rfl rfl (w_octet_Put ((([u8I r.fn] ++ put2 r.at_) ++ put2 r.count) ++ put2 r.wAt) false ((r.vals.length : Nat) : Int) (by first|omega|assumption|(simp; omega)|decide|(simp; done))) rfl (dist_of rfl) rfl rfl rfl rfl ⟨rfl,rfl,rfl⟩) rfl trivial rfl rfl ?_
          refine d_op ?_
          refine x_run0 [(1,PV.ptr 0 0)] [] rfl rfl rfl rfl (s_fa_ptr tab_27 rfl rfl tab_24 (by decide) rfl ⟨rfl,rfl,rfl⟩) ?_
          refine d_op ?_
          refine x_run [(96,PV.ptr 0 6)] [8] [(0,.obj [pI r.fn,pI r.at_,pI r.count,pI r.wAt,pI r.sub,pS 1 false encBo r.bits,pS 1 false enc16 r.vals,p16 r.and_,p16 r.or_])] [] [(0,.obj [pI r.fn,pI r.at_,pI r.count,pI r.wAt,pI r.sub,pS 1 false encBo r.bits,pS 1 false enc16 r.vals,p16 r.and_,p16 r.or_])] [] [(5,oB true 1 enc8 (((([u8I r.fn] ++ put2 r.at_) ++ put2 r.count) ++ put2 r.wAt) ++ put2 ((r.vals.length : Nat) : Int))),(4,oB false 1 enc8 ((([u8I r.fn] ++ put2 r.at_) ++ put2 r.count) ++ put2 r.wAt)),(3,oB false 1 enc8 (([u8I r.fn] ++ put2 r.at_) ++ put2 r.count)),(2,oB false 1 enc8 ([u8I r.fn] ++ put2 r.at_)),(1,oB false 1 enc8 [u8I r.fn]),(0,.obj [pI r.fn,pI r.at_,pI r.count,pI r.wAt,pI r.sub,pS 1 false encBo r.bits,pS 1 false enc16 r.vals,p16 r.and_,p16 r.or_])] rfl rfl rfl rfl rfl rfl (s_load_ptr1 tab_24 rfl rfl rfl rfl rfl ⟨rfl,rfl,rfl⟩) rfl ⟨rfl,trivial⟩ rfl rfl ?_
          refine d_op ?_
          refine x_run [(97,pS 1 false enc16 r.vals)] [0,1,2,3,4,5,6,7,8,9] [] [] [(6,oB true 1 enc8 (bytesL r.vals))] [(6,oB true 1 enc8 (bytesL r.vals))] [(6,oB true 1 enc8 (bytesL r.vals)),(5,oB true 1 enc8 (((([u8I r.fn] ++ put2 r.at_) ++ put2 r.count) ++ put2 r.wAt) ++ put2 ((r.vals.length : Nat) : Int))),(4,oB false 1 enc8 ((([u8I r.fn] ++ put2 r.at_) ++ put2 r.count) ++ put2 r.wAt)),(3,oB false 1 enc8 (([u8I r.fn] ++ put2 r.at_) ++ put2 r.count)),(2,oB false 1 enc8 ([u8I r.fn] ++ put2 r.at_)),(1,oB false 1 enc8 [u8I r.fn]),(0,.obj [pI r.fn,pI r.at_,pI r.count,pI r.wAt,pI r.sub,pS 1 false encBo r.bits,pS 1 false enc16 r.vals,p16 r.and_,p16 r.or_])] rfl rfl rfl rfl rfl rfl (s_callX (r2 := PV.ref 6 0 none) (nx1 := 7) (H2 := []) (H3 := [(6,oB true 1 enc8 (bytesL r.vals))]) [] [] rfl rfl rfl (handed_of (by decide) trivial) rfl rfl rfl rfl rfl rfl (w_octet_Bytes r.vals false (by first|omega|assumption|(simp; omega)|decide|(simp; done))) rfl (dist_of rfl) rfl rfl rfl rfl ⟨rfl,rfl,rfl⟩) rfl trivial rfl rfl ?_
          refine d_op ?_
          refine x_run [(98,PV.ref 6 0 none)] [0,1,2,3,4,5,6,7,8,9,10] [] [(6,oB true 1 enc8 (bytesL r.vals))] [(7,oB true 1 enc8 (rowX (bytesL r.vals))),(6,oB false 1 enc8 (bytesL r.vals))] [(7,oB true 1 enc8 (rowX (bytesL r.vals))),(6,oB false 1 enc8 (bytesL r.vals))] [(7,oB true 1 enc8 (rowX (bytesL r.vals))),(6,oB false 1 enc8 (bytesL r.vals)),(5,oB true 1 enc8 (((([u8I r.fn] ++ put2 r.at_) ++ put2 r.count) ++ put2 r.wAt) ++ put2 ((r.vals.length : Nat) : Int))),(4,oB false 1 enc8 ((([u8I r.fn] ++ put2 r.at_) ++ put2 r.count) ++ put2 r.wAt)),(3,oB false 1 enc8 (([u8I r.fn] ++ put2 r.at_) ++ put2 r.count)),(2,oB false 1 enc8 ([u8I r.fn] ++ put2 r.at_)),(1,oB false 1 enc8 [u8I r.fn]),(0,.obj [pI r.fn,pI r.at_,pI r.count,pI r.wAt,pI r.sub,pS 1 false encBo r.bits,pS 1 false enc16 r.vals,p16 r.and_,p16 r.or_])] rfl rfl rfl rfl rfl rfl (s_callX (r2 := PV.ref 7 0 none) (nx1 := 8) (H2 := [(6,oB false 1 enc8 (bytesL r.vals))]) (H3 := [(7,oB true 1 enc8 (rowX (bytesL r.vals))),(6,oB false 1 enc8 (bytesL r.vals))]) [] [] rfl rfl rfl (handed_of (by decide) trivial) rfl rfl rfl rfl rfl rfl (w_pdu_counted (bytesL r.vals) false (by first|omega|assumption|(simp; omega)|decide|(simp; done))) rfl (dist_of rfl) rfl rfl rfl rfl ⟨rfl,rfl,rfl⟩) rfl trivial rfl rfl ?_
          refine d_op ?_
          refine x_run [(95,PV.ref 5 0 none),(99,PV.ref 7 0 none)] [0,1,2,3,4,5,6,7,8,9,10,11] [(7,oB true 1 enc8 (rowX (bytesL r.vals)))] [(5,oB true 1 enc8 (((([u8I r.fn] ++ put2 r.at_) ++ put2 r.count) ++ put2 r.wAt) ++ put2 ((r.vals.length : Nat) : Int)))] [(8,oB true 1 enc8 ((((([u8I r.fn] ++ put2 r.at_) ++ put2 r.count) ++ put2 r.wAt) ++ put2 ((r.vals.length : Nat) : Int)) ++ (rowX (bytesL r.vals)))),(7,oB true 1 enc8 (rowX (bytesL r.vals)))] [(8,oB true 1 enc8 ((((([u8I r.fn] ++ put2 r.at_) ++ put2 r.count) ++ put2 r.wAt) ++ put2 ((r.vals.length : Nat) : Int)) ++ (rowX (bytesL r.vals))))] [(8,oB true 1 enc8 ((((([u8I r.fn] ++ put2 r.at_) ++ put2 r.count) ++ put2 r.wAt) ++ put2 ((r.vals.length : Nat) : Int)) ++ (rowX (bytesL r.vals)))),(7,oB true 1 enc8 (rowX (bytesL r.vals))),(6,oB false 1 enc8 (bytesL r.vals)),(4,oB false 1 enc8 ((([u8I r.fn] ++ put2 r.at_) ++ put2 r.count) ++ put2 r.wAt)),(3,oB false 1 enc8 (([u8I r.fn] ++ put2 r.at_) ++ put2 r.count)),(2,oB false 1 enc8 ([u8I r.fn] ++ put2 r.at_)),(1,oB false 1 enc8 [u8I r.fn]),(0,.obj [pI r.fn,pI r.at_,pI r.count,pI r.wAt,pI r.sub,pS 1 false encBo r.bits,pS 1 false enc16 r.vals,p16 r.and_,p16 r.or_])] rfl rfl rfl rfl rfl rfl (s_appR0 (f := enc8) (l := ((([u8I r.fn] ++ put2 r.at_) ++ put2 r.count) ++ put2 r.wAt) ++ put2 ((r.vals.length : Nat) : Int)) (xs := rowX (bytesL r.vals)) tab_34 rfl tab_5 ⟨rfl,by decide,by decide⟩ (srcM tab_34 rfl (hM_ref0 (f := enc8) rfl rfl)) rfl rfl (by first|omega|(simp; omega)) ⟨rfl,rfl,rfl⟩) rfl ⟨rfl,trivial⟩ rfl rfl ?_
          refine d_op ?_
          refine x_run0 [(100,PV.ref 8 0 none)] [0,1,2,3,4,5,6,7,8,9,10,11,12] rfl rfl rfl rfl (s_assign rfl ⟨rfl,rfl,rfl⟩) ?_
          refine d_end ⟨by kernel_rfl, ?_⟩
          refine q_block ?_
          refine q_then ?_
          refine w_seq ?_
          refine w_R ?_
          refine qm hnt rfl rfl ?_
          refine qo hnt rfl (s_callX (r2 := pS 1 true enc8 ((((([u8I r.fn] ++ put2 r.at_) ++ put2 r.count) ++ put2 r.wAt) ++ put2 ((r.vals.length : Nat) : Int)) ++ (rowX (bytesL r.vals)))) (nx1 := 9) (H2 := [(8,oB false 1 enc8 ((((([u8I r.fn] ++ put2 r.at_) ++ put2 r.count) ++ put2 r.wAt) ++ put2 ((r.vals.length : Nat) : Int)) ++ (rowX (bytesL r.vals)))),(7,oB true 1 enc8 (rowX (bytesL r.vals))),(6,oB false 1 enc8 (bytesL r.vals)),(4,oB false 1 enc8 ((([u8I r.fn] ++ put2 r.at_) ++ put2 r.count) ++ put2 r.wAt)),(3,oB false 1 enc8 (([u8I r.fn] ++ put2 r.at_) ++ put2 r.count)),(2,oB false 1 enc8 ([u8I r.fn] ++ put2 r.at_)),(1,oB false 1 enc8 [u8I r.fn]),(0,.obj [pI r.fn,pI r.at_,pI r.count,pI r.wAt,pI r.sub,pS 1 false encBo r.bits,pS 1 false enc16 r.vals,p16 r.and_,p16 r.or_])]) (H3 := [(8,oB false 1 enc8 ((((([u8I r.fn] ++ put2 r.at_) ++ put2 r.count) ++ put2 r.wAt) ++ put2 ((r.vals.length : Nat) : Int)) ++ (rowX (bytesL r.vals)))),(7,oB true 1 enc8 (rowX (bytesL r.vals))),(6,oB false 1 enc8 (bytesL r.vals)),(4,oB false 1 enc8 ((([u8I r.fn] ++ put2 r.at_) ++ put2 r.count) ++ put2 r.wAt)),(3,oB false 1 enc8 (([u8I r.fn] ++ put2 r.at_) ++ put2 r.count)),(2,oB false 1 enc8 ([u8I r.fn] ++ put2 r.at_)),(1,oB false 1 enc8 [u8I r.fn]),(0,.obj [pI r.fn,pI r.at_,pI r.count,pI r.wAt,pI r.sub,pS 1 false encBo r.bits,pS 1 false enc16 r.vals,p16 r.and_,p16 r.or_])]) [] [] rfl rfl rfl (handed_of (by decide) trivial) rfl rfl rfl rfl rfl rfl (w_slices_Clip_byte_byte ((((([u8I r.fn] ++ put2 r.at_) ++ put2 r.count) ++ put2 r.wAt) ++ put2 ((r.vals.length : Nat) : Int)) ++ (rowX (bytesL r.vals))) false) rfl (dist_of rfl) rfl rfl rfl rfl ?_)
          refine qa hnt rfl rfl ?_
          refine qa hnt rfl rfl ?_
          refine r_set [(2,pS 1 true enc8 ((((([u8I r.fn] ++ put2 r.at_) ++ put2 r.count) ++ put2 r.wAt) ++ put2 ((r.vals.length : Nat) : Int)) ++ (rowX (bytesL r.vals)))),(3,pI 0)] [(8,oB false 1 enc8 ((((([u8I r.fn] ++ put2 r.at_) ++ put2 r.count) ++ put2 r.wAt) ++ put2 ((r.vals.length : Nat) : Int)) ++ (rowX (bytesL r.vals)))),(7,oB true 1 enc8 (rowX (bytesL r.vals))),(6,oB false 1 enc8 (bytesL r.vals)),(4,oB false 1 enc8 ((([u8I r.fn] ++ put2 r.at_) ++ put2 r.count) ++ put2 r.wAt)),(3,oB false 1 enc8 (([u8I r.fn] ++ put2 r.at_) ++ put2 r.count)),(2,oB false 1 enc8 ([u8I r.fn] ++ put2 r.at_)),(1,oB false 1 enc8 [u8I r.fn]),(0,.obj [pI r.fn,pI r.at_,pI r.count,pI r.wAt,pI r.sub,pS 1 false encBo r.bits,pS 1 false enc16 r.vals,p16 r.and_,p16 r.or_])] 9 ⟨rfl,rfl,trivial⟩ rfl rfl ?_
          refine r_end ?_
          refine q_then ?_
          refine w_le (s := 2) (y := pS 1 false enc8 ((((([u8I r.fn] ++ put2 r.at_) ++ put2 r.count) ++ put2 r.wAt) ++ put2 ((r.vals.length : Nat) : Int)) ++ (rowX (bytesL r.vals)))) rfl (le_loose) ?_
          refine w_le (s := 2) (y := pS 1 false enc8 (bytesR r)) rfl (le_of_eq (congrArg (fun z => pS 1 false enc8 z) (show ((((([u8I r.fn] ++ put2 r.at_) ++ put2 r.count) ++ put2 r.wAt) ++ put2 ((r.vals.length : Nat) : Int)) ++ (rowX (bytesL r.vals))) = (bytesR r) by first|(rw [bytesR_no (by first|assumption|simpa using c1_)]; done)|(rw [hbr,writeR_no (by omega)]; done)|(rw [hbr,writeR_1 (by omega)]; simp; done)|(rw [hbr,writeR_15 (by omega)]; simp; done)|(rw [hbr,writeR_16 (by omega)]; simp; done)|(rw [hbr,writeR_22 (by omega)]; simp; done)|(rw [hbr,writeR_23 (by omega)]; simp; done)|(rw [hbr,writeR_5 (by omega) (by assumption)]; simp [*]; done)|(rw [hbr,writeR_8 (e := v1) (by omega) (by rw [hv1]; rfl),hv1,bytes_one]; simp; done)|(rw [hbr,writeR_6 (e := v1) (by omega) (by rw [hv1]; rfl),hv1,bytes_one]; simp; done)|simp [*]))) ?_
          refine w_le (s := 3) (y := pI (rightR r)) rfl (le_of_eq (congrArg (fun z : Int => pI z) (show 0 = (rightR r) by first|(rw [bytesR_no (by first|assumption|simpa using c1_)]; done)|(rw [hbr,writeR_no (by omega)]; done)|(rw [hbr,writeR_1 (by omega)]; simp; done)|(rw [hbr,writeR_15 (by omega)]; simp; done)|(rw [hbr,writeR_16 (by omega)]; simp; done)|(rw [hbr,writeR_22 (by omega)]; simp; done)|(rw [hbr,writeR_23 (by omega)]; simp; done)|(rw [hbr,writeR_5 (by omega) (by assumption)]; simp [*]; done)|(rw [hbr,writeR_8 (e := v1) (by omega) (by rw [hv1]; rfl),hv1,bytes_one]; simp; done)|(rw [hbr,writeR_6 (e := v1) (by omega) (by rw [hv1]; rfl),hv1,bytes_one]; simp; done)|simp [*]))) ?_
          refine w_ret ?_
          exact fin_plain (ret_tmp rfl (ret_tmp rfl ret_nil)) rfl rfl ⟨rfl,rfl,rfl⟩
         ·
          have c10_ := c10
          try simp only [sB] at c10
          refine w_skip ?_
          refine q_block ?_
          refine q_then ?_
          refine w_seq ?_
          refine w_R ?_
          refine qm hnt rfl rfl ?_
          refine qo hnt rfl (s_callX (r2 := pS 1 true enc8 (([u8I r.fn] ++ put2 r.at_) ++ put2 r.count)) (nx1 := 4) (H2 := [(3,oB false 1 enc8 (([u8I r.fn] ++ put2 r.at_) ++ put2 r.count)),(2,oB false 1 enc8 ([u8I r.fn] ++ put2 r.at_)),(1,oB false 1 enc8 [u8I r.fn]),(0,.obj [pI r.fn,pI r.at_,pI r.count,pI r.wAt,pI r.sub,pS 1 false encBo r.bits,pS 1 false enc16 r.vals,p16 r.and_,p16 r.or_])]) (H3 := [(3,oB false 1 enc8 (([u8I r.fn] ++ put2 r.at_) ++ put2 r.count)),(2,oB false 1 enc8 ([u8I r.fn] ++ put2 r.at_)),(1,oB false 1 enc8 [u8I r.fn]),(0,.obj [pI r.fn,pI r.at_,pI r.count,pI r.wAt,pI r.sub,pS 1 false encBo r.bits,pS 1 false enc16 r.vals,p16 r.and_,p16 r.or_])]) [] [] rfl rfl rfl (handed_of (by decide) trivial) rfl rfl rfl rfl rfl rfl (w_slices_Clip_byte_byte (([u8I r.fn] ++ put2 r.at_) ++ put2 r.count) false) rfl (dist_of rfl) rfl rfl rfl rfl ?_)
          refine qa hnt rfl rfl ?_
          refine qa hnt rfl rfl ?_
          refine r_set [(2,pS 1 true enc8 (([u8I r.fn] ++ put2 r.at_) ++ put2 r.count)),(3,pI 0)] [(3,oB false 1 enc8 (([u8I r.fn] ++ put2 r.at_) ++ put2 r.count)),(2,oB false 1 enc8 ([u8I r.fn] ++ put2 r.at_)),(1,oB false 1 enc8 [u8I r.fn]),(0,.obj [pI r.fn,pI r.at_,pI r.count,pI r.wAt,pI r.sub,pS 1 false encBo r.bits,pS 1 false enc16 r.vals,p16 r.and_,p16 r.or_])] 4 ⟨rfl,rfl,trivial⟩ rfl rfl ?_
          refine r_end ?_
          refine q_then ?_
          refine w_le (s := 2) (y := pS 1 false enc8 (([u8I r.fn] ++ put2 r.at_) ++ put2 r.count)) rfl (le_loose) ?_
          refine w_le (s := 2) (y := pS 1 false enc8 (bytesR r)) rfl (le_of_eq (congrArg (fun z => pS 1 false enc8 z) (show (([u8I r.fn] ++ put2 r.at_) ++ put2 r.count) = (bytesR r) by first|(rw [bytesR_no (by first|assumption|simpa using c1_)]; done)|(rw [hbr,writeR_no (by omega)]; done)|(rw [hbr,writeR_1 (by omega)]; simp; done)|(rw [hbr,writeR_15 (by omega)]; simp; done)|(rw [hbr,writeR_16 (by omega)]; simp; done)|(rw [hbr,writeR_22 (by omega)]; simp; done)|(rw [hbr,writeR_23 (by omega)]; simp; done)|(rw [hbr,writeR_5 (by omega) (by assumption)]; simp [*]; done)|(rw [hbr,writeR_8 (e := v1) (by omega) (by rw [hv1]; rfl),hv1,bytes_one]; simp; done)|(rw [hbr,writeR_6 (e := v1) (by omega) (by rw [hv1]; rfl),hv1,bytes_one]; simp; done)|simp [*]))) ?_
          refine w_le (s := 3) (y := pI (rightR r)) rfl (le_of_eq (congrArg (fun z : Int => pI z) (show 0 = (rightR r) by first|(rw [bytesR_no (by first|assumption|simpa using c1_)]; done)|(rw [hbr,writeR_no (by omega)]; done)|(rw [hbr,writeR_1 (by omega)]; simp; done)|(rw [hbr,writeR_15 (by omega)]; simp; done)|(rw [hbr,writeR_16 (by omega)]; simp; done)|(rw [hbr,writeR_22 (by omega)]; simp; done)|(rw [hbr,writeR_23 (by omega)]; simp; done)|(rw [hbr,writeR_5 (by omega) (by assumption)]; simp [*]; done)|(rw [hbr,writeR_8 (e := v1) (by omega) (by rw [hv1]; rfl),hv1,bytes_one]; simp; done)|(rw [hbr,writeR_6 (e := v1) (by omega) (by rw [hv1]; rfl),hv1,bytes_one]; simp; done)|simp [*]))) ?_
          refine w_ret ?_
          exact fin_plain (ret_tmp rfl (ret_tmp rfl ret_nil)) rfl rfl ⟨rfl,rfl,rfl⟩
theorem w_burgageref3_Counts (r : TRequest) (hb : r.bits.length ≤ 140737488351232) (hv : r.vals.length ≤ 140737488351232) :
    T Try.prog 49 [PV.f (eRequest r)] 0 [] (Ret (pB (countsR r)) 0 []) := by
 refine t_fun tabOk (n := 65) (rs := [.tmp 2]) Try.func49 rfl rfl rfl rfl (Nat.le_of_ble_eq_true rfl) ?_
 intro c hnt hk
 refine w_seq ?_
 refine w_R ?_
 refine qo hnt rfl (s_box rfl rfl ?_)
 refine qa hnt rfl rfl ?_
 refine r_set [(1,PV.ptr 0 0)] [(0,.obj [pI r.fn,pI r.at_,pI r.count,pI r.wAt,pI r.sub,pS 1 false encBo r.bits,pS 1 false enc16 r.vals,p16 r.and_,p16 r.or_])] 1 ⟨rfl,trivial⟩ rfl rfl ?_
 refine r_end ?_
 refine q_then ?_
 refine w_seq ?_
 refine w_seq ?_
 refine w_R ?_
 refine qo hnt rfl (s_load_ptr tab_27 rfl rfl rfl (Nat.le_of_ble_eq_true rfl) ?_)
 refine qo hnt rfl (s_callF rfl rfl rfl (w_burgageref3_Right r (by first|omega|assumption|(simp; omega)|decide|(simp; done)) (by first|omega|assumption|(simp; omega)|decide|(simp; done))) rfl ?_)
 refine qo hnt rfl (s_neq rfl rfl ?_)
 refine r_end ?_
 refine q_then ?_
 refine w_if rfl (fun c1 => ?_) (fun c1 => ?_)
 ·
  have c1_ := c1
  try simp only [sB] at c1
  refine w_seq ?_
  refine w_R ?_
  refine qa hnt rfl rfl ?_
  refine r_end ?_
  refine q_then ?_
  refine w_le (s := 2) (y := pB (countsR r)) rfl (le_of_eq (congrArg (fun z : Bool => pB z) (show false = (countsR r) by first|exact (counts_no (by assumption)).symm|exact (counts_no (by simpa using c1_)).symm|(rw [counts_yes (by first|assumption|simpa using c1_)]; unfold manyOk; first|exact (decide_eq_true (by omega)).symm|exact (decide_eq_false (by omega)).symm|(apply Bool.eq_iff_iff.2; simp only [Bool.and_eq_true,Bool.or_eq_true,decide_eq_true_eq,Bool.not_eq_true',decide_eq_false_iff_not]; try omega))))) ?_
  refine w_ret ?_
  refine q_then_ret ?_
  exact fin_plain (ret_tmp rfl ret_nil) rfl rfl ⟨rfl,rfl,rfl⟩
 ·
  have c1_ := c1
  try simp only [sB] at c1
  refine w_skip ?_
  refine q_then ?_
  refine w_seq ?_
  refine w_R ?_
  refine qo hnt rfl (s_fa_ptr tab_27 rfl rfl tab_3 (by decide) rfl ?_)
  refine qo hnt rfl (s_load_ptr1 tab_3 rfl rfl rfl rfl rfl ?_)
  refine qa hnt rfl rfl ?_
  refine r_end ?_
  refine q_then ?_
  refine w_seq ?_
  refine w_seq ?_
  refine w_R ?_
  refine qo hnt rfl (s_fa_ptr tab_27 rfl rfl tab_3 (by decide) rfl ?_)
  refine qo hnt rfl (s_load_ptr1 tab_3 rfl rfl rfl rfl rfl ?_)
  refine r_end ?_
  refine q_then ?_
  refine w_block ?_
  refine w_seq ?_
  refine w_seq ?_
  refine w_R ?_
  refine qo hnt rfl (s_eql rfl rfl ?_)
  refine qa hnt rfl rfl ?_
  refine r_end ?_
  refine q_then ?_
  refine w_if rfl (fun c2 => ?_) (fun c2 => ?_)
  ·
   have c2_ := c2
   try simp only [sB] at c2
   refine w_skip ?_
   refine q_then ?_
   refine w_if rfl (fun _ => ?_) (fun e => absurd (e.symm.trans c2_) (by decide))
   refine w_seq ?_
   refine w_R ?_
   refine qm hnt rfl rfl ?_
   refine qo hnt rfl (s_geq rfl rfl ?_)
   refine qm hnt rfl rfl ?_
   refine r_cut0 3 [(19,pB ((decide (1 ≤ r.count)) && (decide (r.count ≤ 2000))))] ?_ ?_
   ·
    refine r_if tabOk hnt rfl rfl rfl (fun g1 => ?_) (fun g1 => ?_)
    ·
     have g1' := g1
     try simp only [sB] at g1'
     refine qm hnt rfl rfl ?_
     refine ry hnt rfl rfl rfl g1 ?_
     refine qo hnt rfl (s_leq rfl rfl ?_)
     refine qo hnt rfl (s_pick_t rfl g1 rfl ?_)
     refine r_eq (s := 19) (y := pB ((decide (1 ≤ r.count)) && (decide (r.count ≤ 2000)))) rfl (mix_at g1) ?_
     exact r_mid ⟨⟨rfl,trivial⟩,rfl,rfl⟩
    ·
     have g1' := g1
     try simp only [sB] at g1'
     refine rn hnt rfl rfl rfl g1 ?_
     refine qo hnt rfl (s_pick_f rfl g1 rfl ?_)
     refine r_eq (s := 19) (y := pB ((decide (1 ≤ r.count)) && (decide (r.count ≤ 2000)))) rfl (mix_af _ g1) ?_
     exact r_mid ⟨⟨rfl,trivial⟩,rfl,rfl⟩
   ·
    refine qa hnt rfl rfl ?_
    refine r_end ?_
    refine q_then ?_
    refine w_le (s := 2) (y := pB (countsR r)) rfl (le_of_eq (congrArg (fun z : Bool => pB z) (show ((decide (1 ≤ r.count)) && (decide (r.count ≤ 2000))) = (countsR r) by first|exact (counts_no (by assumption)).symm|exact (counts_no (by simpa using c1_)).symm|(rw [counts_yes (by first|assumption|simpa using c1_)]; unfold manyOk; first|exact (decide_eq_true (by omega)).symm|exact (decide_eq_false (by omega)).symm|(apply Bool.eq_iff_iff.2; simp only [Bool.and_eq_true,Bool.or_eq_true,decide_eq_true_eq,Bool.not_eq_true',decide_eq_false_iff_not]; try omega))))) ?_
    refine w_ret ?_
    refine q_block_ret ?_
    refine q_then_ret ?_
    exact fin_plain (ret_tmp rfl ret_nil) rfl rfl ⟨rfl,rfl,rfl⟩
  ·
   have c2_ := c2
   try simp only [sB] at c2
   refine w_R ?_
   refine qo hnt rfl (s_eql rfl rfl ?_)
   refine qa hnt rfl rfl ?_
   refine r_end ?_
   refine q_then ?_
   refine w_if rfl (fun c3 => ?_) (fun c3 => ?_)
   ·
    have c3_ := c3
    try simp only [sB] at c3
    refine w_seq ?_
    refine w_R ?_
    refine qm hnt rfl rfl ?_
    refine qo hnt rfl (s_geq rfl rfl ?_)
    refine qm hnt rfl rfl ?_
    refine r_cut0 3 [(19,pB ((decide (1 ≤ r.count)) && (decide (r.count ≤ 2000))))] ?_ ?_
    ·
     refine r_if tabOk hnt rfl rfl rfl (fun g2 => ?_) (fun g2 => ?_)
     ·
      have g2' := g2
      try simp only [sB] at g2'
      refine qm hnt rfl rfl ?_
      refine ry hnt rfl rfl rfl g2 ?_
      refine qo hnt rfl (s_leq rfl rfl ?_)
      refine qo hnt rfl (s_pick_t rfl g2 rfl ?_)
      refine r_eq (s := 19) (y := pB ((decide (1 ≤ r.count)) && (decide (r.count ≤ 2000)))) rfl (mix_at g2) ?_
      exact r_mid ⟨⟨rfl,trivial⟩,rfl,rfl⟩
     ·
      have g2' := g2
      try simp only [sB] at g2'
      refine rn hnt rfl rfl rfl g2 ?_
      refine qo hnt rfl (s_pick_f rfl g2 rfl ?_)
      refine r_eq (s := 19) (y := pB ((decide (1 ≤ r.count)) && (decide (r.count ≤ 2000)))) rfl (mix_af _ g2) ?_
      exact r_mid ⟨⟨rfl,trivial⟩,rfl,rfl⟩
    ·
     refine qa hnt rfl rfl ?_
     refine r_end ?_
     refine q_then ?_
     refine w_le (s := 2) (y := pB (countsR r)) rfl (le_of_eq (congrArg (fun z : Bool => pB z) (show ((decide (1 ≤ r.count)) && (decide (r.count ≤ 2000))) = (countsR r) by first|exact (counts_no (by assumption)).symm|exact (counts_no (by simpa using c1_)).symm|(rw [counts_yes (by first|assumption|simpa using c1_)]; unfold manyOk; first|exact (decide_eq_true (by omega)).symm|exact (decide_eq_false (by omega)).symm|(apply Bool.eq_iff_iff.2; simp only [Bool.and_eq_true,Bool.or_eq_true,decide_eq_true_eq,Bool.not_eq_true',decide_eq_false_iff_not]; try omega))))) ?_
     refine w_ret ?_
     refine q_block_ret ?_
     refine q_then_ret ?_
     exact fin_plain (ret_tmp rfl ret_nil) rfl rfl ⟨rfl,rfl,rfl⟩
   ·
    have c3_ := c3
    try simp only [sB] at c3
    refine w_seq ?_
    refine w_seq ?_
    refine w_R ?_
    refine qo hnt rfl (s_eql rfl rfl ?_)
    refine qa hnt rfl rfl ?_
    refine r_end ?_
    refine q_then ?_
    refine w_if rfl (fun c4 => ?_) (fun c4 => ?_)
    ·
     have c4_ := c4
     try simp only [sB] at c4
     refine w_skip ?_
     refine q_then ?_
     refine w_if rfl (fun _ => ?_) (fun e => absurd (e.symm.trans c4_) (by decide))
     refine w_seq ?_
     refine w_R ?_
     refine qm hnt rfl rfl ?_
     refine qo hnt rfl (s_geq rfl rfl ?_)
     refine qm hnt rfl rfl ?_
     refine r_cut0 3 [(28,pB ((decide (1 ≤ r.count)) && (decide (r.count ≤ 125))))] ?_ ?_
     ·
      refine r_if tabOk hnt rfl rfl rfl (fun g3 => ?_) (fun g3 => ?_)
      ·
       have g3' := g3
       try simp only [sB] at g3'
       refine qm hnt rfl rfl ?_
       refine ry hnt rfl rfl rfl g3 ?_
       refine qo hnt rfl (s_leq rfl rfl ?_)
       refine qo hnt rfl (s_pick_t rfl g3 rfl ?_)
       refine r_eq (s := 28) (y := pB ((decide (1 ≤ r.count)) && (decide (r.count ≤ 125)))) rfl (mix_at g3) ?_
       exact r_mid ⟨⟨rfl,trivial⟩,rfl,rfl⟩
      ·
       have g3' := g3
       try simp only [sB] at g3'
       refine rn hnt rfl rfl rfl g3 ?_
       refine qo hnt rfl (s_pick_f rfl g3 rfl ?_)
       refine r_eq (s := 28) (y := pB ((decide (1 ≤ r.count)) && (decide (r.count ≤ 125)))) rfl (mix_af _ g3) ?_
       exact r_mid ⟨⟨rfl,trivial⟩,rfl,rfl⟩
     ·
      refine qa hnt rfl rfl ?_
      refine r_end ?_
      refine q_then ?_
      refine w_le (s := 2) (y := pB (countsR r)) rfl (le_of_eq (congrArg (fun z : Bool => pB z) (show ((decide (1 ≤ r.count)) && (decide (r.count ≤ 125))) = (countsR r) by first|exact (counts_no (by assumption)).symm|exact (counts_no (by simpa using c1_)).symm|(rw [counts_yes (by first|assumption|simpa using c1_)]; unfold manyOk; first|exact (decide_eq_true (by omega)).symm|exact (decide_eq_false (by omega)).symm|(apply Bool.eq_iff_iff.2; simp only [Bool.and_eq_true,Bool.or_eq_true,decide_eq_true_eq,Bool.not_eq_true',decide_eq_false_iff_not]; try omega))))) ?_
      refine w_ret ?_
      refine q_block_ret ?_
      refine q_then_ret ?_
      exact fin_plain (ret_tmp rfl ret_nil) rfl rfl ⟨rfl,rfl,rfl⟩
    ·
     have c4_ := c4
     try simp only [sB] at c4
     refine w_R ?_
     refine qo hnt rfl (s_eql rfl rfl ?_)
     refine qa hnt rfl rfl ?_
     refine r_end ?_
     refine q_then ?_
     refine w_if rfl (fun c5 => ?_) (fun c5 => ?_)
     ·
      have c5_ := c5
      try simp only [sB] at c5
      refine w_seq ?_
      refine w_R ?_
      refine qm hnt rfl rfl ?_
      refine qo hnt rfl (s_geq rfl rfl ?_)
      refine qm hnt rfl rfl ?_
      refine r_cut0 3 [(28,pB ((decide (1 ≤ r.count)) && (decide (r.count ≤ 125))))] ?_ ?_
      ·
       refine r_if tabOk hnt rfl rfl rfl (fun g4 => ?_) (fun g4 => ?_)
       ·
        have g4' := g4
        try simp only [sB] at g4'
        refine qm hnt rfl rfl ?_
        refine ry hnt rfl rfl rfl g4 ?_
        refine qo hnt rfl (s_leq rfl rfl ?_)
        refine qo hnt rfl (s_pick_t rfl g4 rfl ?_)
        refine r_eq (s := 28) (y := pB ((decide (1 ≤ r.count)) && (decide (r.count ≤ 125)))) rfl (mix_at g4) ?_
        exact r_mid ⟨⟨rfl,trivial⟩,rfl,rfl⟩
       ·
        have g4' := g4
        try simp only [sB] at g4'
        refine rn hnt rfl rfl rfl g4 ?_
        refine qo hnt rfl (s_pick_f rfl g4 rfl ?_)
        refine r_eq (s := 28) (y := pB ((decide (1 ≤ r.count)) && (decide (r.count ≤ 125)))) rfl (mix_af _ g4) ?_
        exact r_mid ⟨⟨rfl,trivial⟩,rfl,rfl⟩
      ·
       refine qa hnt rfl rfl ?_
       refine r_end ?_
       refine q_then ?_
       refine w_le (s := 2) (y := pB (countsR r)) rfl (le_of_eq (congrArg (fun z : Bool => pB z) (show ((decide (1 ≤ r.count)) && (decide (r.count ≤ 125))) = (countsR r) by first|exact (counts_no (by assumption)).symm|exact (counts_no (by simpa using c1_)).symm|(rw [counts_yes (by first|assumption|simpa using c1_)]; unfold manyOk; first|exact (decide_eq_true (by omega)).symm|exact (decide_eq_false (by omega)).symm|(apply Bool.eq_iff_iff.2; simp only [Bool.and_eq_true,Bool.or_eq_true,decide_eq_true_eq,Bool.not_eq_true',decide_eq_false_iff_not]; try omega))))) ?_
       refine w_ret ?_
       refine q_block_ret ?_
       refine q_then_ret ?_
       exact fin_plain (ret_tmp rfl ret_nil) rfl rfl ⟨rfl,rfl,rfl⟩
     ·
      have c5_ := c5
      try simp only [sB] at c5
      refine w_seq ?_
      refine w_R ?_
      refine qo hnt rfl (s_eql rfl rfl ?_)
      refine qa hnt rfl rfl ?_
      refine r_end ?_
      refine q_then ?_
      refine w_if rfl (fun c6 => ?_) (fun c6 => ?_)
      ·
       have c6_ := c6
       try simp only [sB] at c6
       refine w_seq ?_
       refine w_R ?_
       refine qm hnt rfl rfl ?_
       refine qo hnt rfl (s_geq rfl rfl ?_)
       refine qm hnt rfl rfl ?_
       refine r_cut0 3 [(36,pB ((decide (1 ≤ r.count)) && (decide (r.count ≤ 1968))))] ?_ ?_
       ·
        refine r_if tabOk hnt rfl rfl rfl (fun g5 => ?_) (fun g5 => ?_)
        ·
         have g5' := g5
         try simp only [sB] at g5'
         refine qm hnt rfl rfl ?_
         refine ry hnt rfl rfl rfl g5 ?_
         refine qo hnt rfl (s_leq rfl rfl ?_)
         refine qo hnt rfl (s_pick_t rfl g5 rfl ?_)
         refine r_eq (s := 36) (y := pB ((decide (1 ≤ r.count)) && (decide (r.count ≤ 1968)))) rfl (mix_at g5) ?_
         exact r_mid ⟨⟨rfl,trivial⟩,rfl,rfl⟩
        ·
         have g5' := g5
         try simp only [sB] at g5'
         refine rn hnt rfl rfl rfl g5 ?_
         refine qo hnt rfl (s_pick_f rfl g5 rfl ?_)
         refine r_eq (s := 36) (y := pB ((decide (1 ≤ r.count)) && (decide (r.count ≤ 1968)))) rfl (mix_af _ g5) ?_
         exact r_mid ⟨⟨rfl,trivial⟩,rfl,rfl⟩
       ·
        refine qa hnt rfl rfl ?_
        refine r_end ?_
        refine q_then ?_
        refine w_le (s := 2) (y := pB (countsR r)) rfl (le_of_eq (congrArg (fun z : Bool => pB z) (show ((decide (1 ≤ r.count)) && (decide (r.count ≤ 1968))) = (countsR r) by first|exact (counts_no (by assumption)).symm|exact (counts_no (by simpa using c1_)).symm|(rw [counts_yes (by first|assumption|simpa using c1_)]; unfold manyOk; first|exact (decide_eq_true (by omega)).symm|exact (decide_eq_false (by omega)).symm|(apply Bool.eq_iff_iff.2; simp only [Bool.and_eq_true,Bool.or_eq_true,decide_eq_true_eq,Bool.not_eq_true',decide_eq_false_iff_not]; try omega))))) ?_
        refine w_ret ?_
        refine q_block_ret ?_
        refine q_then_ret ?_
        exact fin_plain (ret_tmp rfl ret_nil) rfl rfl ⟨rfl,rfl,rfl⟩
      ·
       have c6_ := c6
       try simp only [sB] at c6
       refine w_seq ?_
       refine w_R ?_
       refine qo hnt rfl (s_eql rfl rfl ?_)
       refine qa hnt rfl rfl ?_
       refine r_end ?_
       refine q_then ?_
       refine w_if rfl (fun c7 => ?_) (fun c7 => ?_)
       ·
        have c7_ := c7
        try simp only [sB] at c7
        refine w_seq ?_
        refine w_R ?_
        refine qm hnt rfl rfl ?_
        refine qo hnt rfl (s_geq rfl rfl ?_)
        refine qm hnt rfl rfl ?_
        refine r_cut0 3 [(44,pB ((decide (1 ≤ r.count)) && (decide (r.count ≤ 123))))] ?_ ?_
        ·
         refine r_if tabOk hnt rfl rfl rfl (fun g6 => ?_) (fun g6 => ?_)
         ·
          have g6' := g6
          try simp only [sB] at g6'
          refine qm hnt rfl rfl ?_
          refine ry hnt rfl rfl rfl g6 ?_
          refine qo hnt rfl (s_leq rfl rfl ?_)
          refine qo hnt rfl (s_pick_t rfl g6 rfl ?_)
          refine r_eq (s := 44) (y := pB ((decide (1 ≤ r.count)) && (decide (r.count ≤ 123)))) rfl (mix_at g6) ?_
          exact r_mid ⟨⟨rfl,trivial⟩,rfl,rfl⟩
         ·
          have g6' := g6
          try simp only [sB] at g6'
          refine rn hnt rfl rfl rfl g6 ?_
          refine qo hnt rfl (s_pick_f rfl g6 rfl ?_)
          refine r_eq (s := 44) (y := pB ((decide (1 ≤ r.count)) && (decide (r.count ≤ 123)))) rfl (mix_af _ g6) ?_
          exact r_mid ⟨⟨rfl,trivial⟩,rfl,rfl⟩
        ·
         refine qa hnt rfl rfl ?_
         refine r_end ?_
         refine q_then ?_
         refine w_le (s := 2) (y := pB (countsR r)) rfl (le_of_eq (congrArg (fun z : Bool => pB z) (show ((decide (1 ≤ r.count)) && (decide (r.count ≤ 123))) = (countsR r) by first|exact (counts_no (by assumption)).symm|exact (counts_no (by simpa using c1_)).symm|(rw [counts_yes (by first|assumption|simpa using c1_)]; unfold manyOk; first|exact (decide_eq_true (by omega)).symm|exact (decide_eq_false (by omega)).symm|(apply Bool.eq_iff_iff.2; simp only [Bool.and_eq_true,Bool.or_eq_true,decide_eq_true_eq,Bool.not_eq_true',decide_eq_false_iff_not]; try omega))))) ?_
         refine w_ret ?_
         refine q_block_ret ?_
         refine q_then_ret ?_
         exact fin_plain (ret_tmp rfl ret_nil) rfl rfl ⟨rfl,rfl,rfl⟩
       ·
        have c7_ := c7
        try simp only [sB] at c7
        refine w_seq ?_
        refine w_R ?_
        refine qo hnt rfl (s_eql rfl rfl ?_)
        refine qa hnt rfl rfl ?_
        refine r_end ?_
        refine q_then ?_
        refine w_if rfl (fun c8 => ?_) (fun c8 => ?_)
        ·
         have c8_ := c8
         try simp only [sB] at c8
         refine w_seq ?_
         refine w_R ?_
         refine qm hnt rfl rfl ?_
         refine qo hnt rfl (s_geq rfl rfl ?_)
         refine qm hnt rfl rfl ?_
         refine r_cut0 3 [(1,PV.ptr 0 0),(52,pB ((decide (1 ≤ r.count)) && (decide (r.count ≤ 125))))] ?_ ?_
         ·
          refine r_if tabOk hnt rfl rfl rfl (fun g7 => ?_) (fun g7 => ?_)
          ·
           have g7' := g7
           try simp only [sB] at g7'
           refine qm hnt rfl rfl ?_
           refine ry hnt rfl rfl rfl g7 ?_
           refine qo hnt rfl (s_leq rfl rfl ?_)
           refine qo hnt rfl (s_pick_t rfl g7 rfl ?_)
           refine r_eq (s := 52) (y := pB ((decide (1 ≤ r.count)) && (decide (r.count ≤ 125)))) rfl (mix_at g7) ?_
           exact r_mid ⟨⟨rfl,rfl,trivial⟩,rfl,rfl⟩
          ·
           have g7' := g7
           try simp only [sB] at g7'
           refine rn hnt rfl rfl rfl g7 ?_
           refine qo hnt rfl (s_pick_f rfl g7 rfl ?_)
           refine r_eq (s := 52) (y := pB ((decide (1 ≤ r.count)) && (decide (r.count ≤ 125)))) rfl (mix_af _ g7) ?_
           exact r_mid ⟨⟨rfl,rfl,trivial⟩,rfl,rfl⟩
         ·
          refine qm hnt rfl rfl ?_
          refine r_cut0 5 [(1,PV.ptr 0 0),(58,pB (((decide (1 ≤ r.count)) && (decide (r.count ≤ 125))) && (decide (1 ≤ ((r.vals.length : Nat) : Int)))))] ?_ ?_
          ·
           refine r_if tabOk hnt rfl rfl rfl (fun g8 => ?_) (fun g8 => ?_)
           ·
            have g8' := g8
            try simp only [sB] at g8'
            refine qo hnt rfl (s_fa_ptr tab_27 rfl rfl tab_24 (by decide) rfl ?_)
            refine ry hnt rfl rfl rfl g8 ?_
            refine qo hnt rfl (s_load_ptr1 tab_24 rfl rfl rfl rfl rfl ?_)
            refine ry hnt rfl rfl rfl g8 ?_
            refine qo hnt rfl (s_lenM (l := r.vals) tab_24 rfl (hM_sl (f := enc16) rfl) ?_)
            refine ry hnt rfl rfl rfl g8 ?_
            refine qo hnt rfl (s_geq rfl rfl ?_)
            refine qo hnt rfl (s_pick_t rfl g8 rfl ?_)
            refine r_eq (s := 58) (y := pB (((decide (1 ≤ r.count)) && (decide (r.count ≤ 125))) && (decide (1 ≤ ((r.vals.length : Nat) : Int))))) rfl (mix_at g8) ?_
            exact r_mid ⟨⟨rfl,rfl,trivial⟩,rfl,rfl⟩
           ·
            have g8' := g8
            try simp only [sB] at g8'
            refine rn hnt rfl rfl rfl g8 ?_
            refine rn hnt rfl rfl rfl g8 ?_
            refine rn hnt rfl rfl rfl g8 ?_
            refine qo hnt rfl (s_pick_f rfl g8 rfl ?_)
            refine r_eq (s := 58) (y := pB (((decide (1 ≤ r.count)) && (decide (r.count ≤ 125))) && (decide (1 ≤ ((r.vals.length : Nat) : Int))))) rfl (mix_af _ g8) ?_
            exact r_mid ⟨⟨rfl,rfl,trivial⟩,rfl,rfl⟩
          ·
           refine qm hnt rfl rfl ?_
           refine r_cut0 5 [(64,pB ((((decide (1 ≤ r.count)) && (decide (r.count ≤ 125))) && (decide (1 ≤ ((r.vals.length : Nat) : Int)))) && (decide (((r.vals.length : Nat) : Int) ≤ 121))))] ?_ ?_
           ·
            refine r_if tabOk hnt rfl rfl rfl (fun g9 => ?_) (fun g9 => ?_)
            ·
             have g9' := g9
             try simp only [sB] at g9'
             refine qo hnt rfl (s_fa_ptr tab_27 rfl rfl tab_24 (by decide) rfl ?_)
             refine ry hnt rfl rfl rfl g9 ?_
             refine qo hnt rfl (s_load_ptr1 tab_24 rfl rfl rfl rfl rfl ?_)
             refine ry hnt rfl rfl rfl g9 ?_
             refine qo hnt rfl (s_lenM (l := r.vals) tab_24 rfl (hM_sl (f := enc16) rfl) ?_)
             refine ry hnt rfl rfl rfl g9 ?_
             refine qo hnt rfl (s_leq rfl rfl ?_)
             refine qo hnt rfl (s_pick_t rfl g9 rfl ?_)
             refine r_eq (s := 64) (y := pB ((((decide (1 ≤ r.count)) && (decide (r.count ≤ 125))) && (decide (1 ≤ ((r.vals.length : Nat) : Int)))) && (decide (((r.vals.length : Nat) : Int) ≤ 121)))) rfl (mix_at g9) ?_
             exact r_mid ⟨⟨rfl,trivial⟩,rfl,rfl⟩
            ·
             have g9' := g9
             try simp only [sB] at g9'
             refine rn hnt rfl rfl rfl g9 ?_
             refine rn hnt rfl rfl rfl g9 ?_
             refine rn hnt rfl rfl rfl g9 ?_
             refine qo hnt rfl (s_pick_f rfl g9 rfl ?_)
             refine r_eq (s := 64) (y := pB ((((decide (1 ≤ r.count)) && (decide (r.count ≤ 125))) && (decide (1 ≤ ((r.vals.length : Nat) : Int)))) && (decide (((r.vals.length : Nat) : Int) ≤ 121)))) rfl (mix_af _ g9) ?_
             exact r_mid ⟨⟨rfl,trivial⟩,rfl,rfl⟩
           ·
            refine qa hnt rfl rfl ?_
            refine r_end ?_
            refine q_then ?_
            refine w_le (s := 2) (y := pB (countsR r)) rfl (le_of_eq (congrArg (fun z : Bool => pB z) (show ((((decide (1 ≤ r.count)) && (decide (r.count ≤ 125))) && (decide (1 ≤ ((r.vals.length : Nat) : Int)))) && (decide (((r.vals.length : Nat) : Int) ≤ 121))) = (countsR r) by first|exact (counts_no (by assumption)).symm|exact (counts_no (by simpa using c1_)).symm|(rw [counts_yes (by first|assumption|simpa using c1_)]; unfold manyOk; first|exact (decide_eq_true (by omega)).symm|exact (decide_eq_false (by omega)).symm|(apply Bool.eq_iff_iff.2; simp only [Bool.and_eq_true,Bool.or_eq_true,decide_eq_true_eq,Bool.not_eq_true',decide_eq_false_iff_not]; try omega))))) ?_
            refine w_ret ?_
            refine q_block_ret ?_
            refine q_then_ret ?_
            exact fin_plain (ret_tmp rfl ret_nil) rfl rfl ⟨rfl,rfl,rfl⟩
        ·
         have c8_ := c8
         try simp only [sB] at c8
         refine w_skip ?_
         refine q_block ?_
         refine q_then ?_
         refine w_seq ?_
         refine w_R ?_
         refine qa hnt rfl rfl ?_
         refine r_end ?_
         refine q_then ?_
         refine w_le (s := 2) (y := pB (countsR r)) rfl (le_of_eq (congrArg (fun z : Bool => pB z) (show true = (countsR r) by first|exact (counts_no (by assumption)).symm|exact (counts_no (by simpa using c1_)).symm|(rw [counts_yes (by first|assumption|simpa using c1_)]; unfold manyOk; first|exact (decide_eq_true (by omega)).symm|exact (decide_eq_false (by omega)).symm|(apply Bool.eq_iff_iff.2; simp only [Bool.and_eq_true,Bool.or_eq_true,decide_eq_true_eq,Bool.not_eq_true',decide_eq_false_iff_not]; try omega))))) ?_
         refine w_ret ?_
         exact fin_plain (ret_tmp rfl ret_nil) rfl rfl ⟨rfl,rfl,rfl⟩
theorem w_pdu_Counts (r : TRequest) (hb : r.bits.length ≤ 140737488351232) (hv : r.vals.length ≤ 140737488351232) :
    T Try.prog 14 [PV.f (eRequest r)] 0 [] (Ret (pB (countsR r)) 0 []) := by
 refine t_fun tabOk (n := 40) (rs := [.tmp 2]) Try.func14 rfl rfl rfl rfl (Nat.le_of_ble_eq_true rfl) ?_
 intro c hnt hk
 refine w_seq ?_
 refine w_R ?_
 refine qo hnt rfl (s_box rfl rfl ?_)
 refine qa hnt rfl rfl ?_
 refine r_set [(1,PV.ptr 0 0)] [(0,.obj [pI r.fn,pI r.at_,pI r.count,pI r.wAt,pI r.sub,pS 1 false encBo r.bits,pS 1 false enc16 r.vals,p16 r.and_,p16 r.or_])] 1 ⟨rfl,trivial⟩ rfl rfl ?_
 refine r_end ?_
 refine q_then ?_
 refine w_seq ?_
 refine w_seq ?_
 refine w_R ?_
 refine qo hnt rfl (s_load_ptr tab_27 rfl rfl rfl (Nat.le_of_ble_eq_true rfl) ?_)
 refine qo hnt rfl (s_callF rfl rfl rfl (w_pdu_Right r (by first|omega|assumption|(simp; omega)|decide|(simp; done)) (by first|omega|assumption|(simp; omega)|decide|(simp; done))) rfl ?_)
 refine qo hnt rfl (s_neq rfl rfl ?_)
 refine r_end ?_
 refine q_then ?_
 refine w_if rfl (fun c1 => ?_) (fun c1 => ?_)
 ·
  have c1_ := c1
  try simp only [sB] at c1
  refine w_seq ?_
  refine w_R ?_
  refine qa hnt rfl rfl ?_
  refine r_end ?_
  refine q_then ?_
  refine w_le (s := 2) (y := pB (countsR r)) rfl (le_of_eq (congrArg (fun z : Bool => pB z) (show false = (countsR r) by first|exact (counts_no (by assumption)).symm|exact (counts_no (by simpa using c1_)).symm|(rw [counts_yes (by first|assumption|simpa using c1_)]; unfold manyOk; first|exact (decide_eq_true (by omega)).symm|exact (decide_eq_false (by omega)).symm|(apply Bool.eq_iff_iff.2; simp only [Bool.and_eq_true,Bool.or_eq_true,decide_eq_true_eq,Bool.not_eq_true',decide_eq_false_iff_not]; try omega))))) ?_
  refine w_ret ?_
  refine q_then_ret ?_
  exact fin_plain (ret_tmp rfl ret_nil) rfl rfl ⟨rfl,rfl,rfl⟩
 ·
  have c1_ := c1
  try simp only [sB] at c1
  refine w_skip ?_
  refine q_then ?_
  refine w_seq ?_
  refine w_R ?_
  refine qa hnt rfl rfl ?_
  refine r_end ?_
  refine q_then ?_
  refine w_seq ?_
  refine w_seq ?_
  refine w_R ?_
  refine qo hnt rfl (s_fa_ptr tab_27 rfl rfl tab_3 (by decide) rfl ?_)
  refine qo hnt rfl (s_load_ptr1 tab_3 rfl rfl rfl rfl rfl ?_)
  refine r_end ?_
  refine q_then ?_
  refine w_block ?_
  refine w_seq ?_
  refine w_seq ?_
  refine w_R ?_
  refine qo hnt rfl (s_eql rfl rfl ?_)
  refine qa hnt rfl rfl ?_
  refine r_end ?_
  refine q_then ?_
  refine w_if rfl (fun c2 => ?_) (fun c2 => ?_)
  ·
   have c2_ := c2
   try simp only [sB] at c2
   refine w_skip ?_
   refine q_then ?_
   refine w_if rfl (fun _ => ?_) (fun e => absurd (e.symm.trans c2_) (by decide))
   refine w_R ?_
   refine qa hnt rfl rfl ?_
   refine r_end ?_
   refine q_block ?_
   refine q_then ?_
   refine w_seq ?_
   refine w_R ?_
   refine qo hnt rfl (s_fa_ptr tab_27 rfl rfl tab_3 (by decide) rfl ?_)
   refine qo hnt rfl (s_load_ptr1 tab_3 rfl rfl rfl rfl rfl ?_)
   refine qo hnt rfl (s_geq rfl rfl ?_)
   refine qm hnt rfl rfl ?_
   refine r_cut0 5 [(39,pB ((decide (1 ≤ r.count)) && (decide (r.count ≤ 2000))))] ?_ ?_
   ·
    refine r_if tabOk hnt rfl rfl rfl (fun g1 => ?_) (fun g1 => ?_)
    ·
     have g1' := g1
     try simp only [sB] at g1'
     refine qo hnt rfl (s_fa_ptr tab_27 rfl rfl tab_3 (by decide) rfl ?_)
     refine ry hnt rfl rfl rfl g1 ?_
     refine qo hnt rfl (s_load_ptr1 tab_3 rfl rfl rfl rfl rfl ?_)
     refine ry hnt rfl rfl rfl g1 ?_
     refine qm hnt rfl rfl ?_
     refine ry hnt rfl rfl rfl g1 ?_
     refine qo hnt rfl (s_leq rfl rfl ?_)
     refine qo hnt rfl (s_pick_t rfl g1 rfl ?_)
     refine r_eq (s := 39) (y := pB ((decide (1 ≤ r.count)) && (decide (r.count ≤ 2000)))) rfl (mix_at g1) ?_
     exact r_mid ⟨⟨rfl,trivial⟩,rfl,rfl⟩
    ·
     have g1' := g1
     try simp only [sB] at g1'
     refine rn hnt rfl rfl rfl g1 ?_
     refine rn hnt rfl rfl rfl g1 ?_
     refine rn hnt rfl rfl rfl g1 ?_
     refine qo hnt rfl (s_pick_f rfl g1 rfl ?_)
     refine r_eq (s := 39) (y := pB ((decide (1 ≤ r.count)) && (decide (r.count ≤ 2000)))) rfl (mix_af _ g1) ?_
     exact r_mid ⟨⟨rfl,trivial⟩,rfl,rfl⟩
   ·
    refine qa hnt rfl rfl ?_
    refine r_end ?_
    refine q_then ?_
    refine w_le (s := 2) (y := pB (countsR r)) rfl (le_of_eq (congrArg (fun z : Bool => pB z) (show ((decide (1 ≤ r.count)) && (decide (r.count ≤ 2000))) = (countsR r) by first|exact (counts_no (by assumption)).symm|exact (counts_no (by simpa using c1_)).symm|(rw [counts_yes (by first|assumption|simpa using c1_)]; unfold manyOk; first|exact (decide_eq_true (by omega)).symm|exact (decide_eq_false (by omega)).symm|(apply Bool.eq_iff_iff.2; simp only [Bool.and_eq_true,Bool.or_eq_true,decide_eq_true_eq,Bool.not_eq_true',decide_eq_false_iff_not]; try omega))))) ?_
    refine w_ret ?_
    exact fin_plain (ret_tmp rfl ret_nil) rfl rfl ⟨rfl,rfl,rfl⟩
  ·
   have c2_ := c2
   try simp only [sB] at c2
   refine w_R ?_
   refine qo hnt rfl (s_eql rfl rfl ?_)
   refine qa hnt rfl rfl ?_
   refine r_end ?_
   refine q_then ?_
   refine w_if rfl (fun c3 => ?_) (fun c3 => ?_)
   ·
    have c3_ := c3
    try simp only [sB] at c3
    refine w_R ?_
    refine qa hnt rfl rfl ?_
    refine r_end ?_
    refine q_block ?_
    refine q_then ?_
    refine w_seq ?_
    refine w_R ?_
    refine qo hnt rfl (s_fa_ptr tab_27 rfl rfl tab_3 (by decide) rfl ?_)
    refine qo hnt rfl (s_load_ptr1 tab_3 rfl rfl rfl rfl rfl ?_)
    refine qo hnt rfl (s_geq rfl rfl ?_)
    refine qm hnt rfl rfl ?_
    refine r_cut0 5 [(39,pB ((decide (1 ≤ r.count)) && (decide (r.count ≤ 2000))))] ?_ ?_
    ·
     refine r_if tabOk hnt rfl rfl rfl (fun g2 => ?_) (fun g2 => ?_)
     ·
      have g2' := g2
      try simp only [sB] at g2'
      refine qo hnt rfl (s_fa_ptr tab_27 rfl rfl tab_3 (by decide) rfl ?_)
      refine ry hnt rfl rfl rfl g2 ?_
      refine qo hnt rfl (s_load_ptr1 tab_3 rfl rfl rfl rfl rfl ?_)
      refine ry hnt rfl rfl rfl g2 ?_
      refine qm hnt rfl rfl ?_
      refine ry hnt rfl rfl rfl g2 ?_
      refine qo hnt rfl (s_leq rfl rfl ?_)
      refine qo hnt rfl (s_pick_t rfl g2 rfl ?_)
      refine r_eq (s := 39) (y := pB ((decide (1 ≤ r.count)) && (decide (r.count ≤ 2000)))) rfl (mix_at g2) ?_
      exact r_mid ⟨⟨rfl,trivial⟩,rfl,rfl⟩
     ·
      have g2' := g2
      try simp only [sB] at g2'
      refine rn hnt rfl rfl rfl g2 ?_
      refine rn hnt rfl rfl rfl g2 ?_
      refine rn hnt rfl rfl rfl g2 ?_
      refine qo hnt rfl (s_pick_f rfl g2 rfl ?_)
      refine r_eq (s := 39) (y := pB ((decide (1 ≤ r.count)) && (decide (r.count ≤ 2000)))) rfl (mix_af _ g2) ?_
      exact r_mid ⟨⟨rfl,trivial⟩,rfl,rfl⟩
    ·
     refine qa hnt rfl rfl ?_
     refine r_end ?_
     refine q_then ?_
     refine w_le (s := 2) (y := pB (countsR r)) rfl (le_of_eq (congrArg (fun z : Bool => pB z) (show ((decide (1 ≤ r.count)) && (decide (r.count ≤ 2000))) = (countsR r) by first|exact (counts_no (by assumption)).symm|exact (counts_no (by simpa using c1_)).symm|(rw [counts_yes (by first|assumption|simpa using c1_)]; unfold manyOk; first|exact (decide_eq_true (by omega)).symm|exact (decide_eq_false (by omega)).symm|(apply Bool.eq_iff_iff.2; simp only [Bool.and_eq_true,Bool.or_eq_true,decide_eq_true_eq,Bool.not_eq_true',decide_eq_false_iff_not]; try omega))))) ?_
     refine w_ret ?_
     exact fin_plain (ret_tmp rfl ret_nil) rfl rfl ⟨rfl,rfl,rfl⟩
   ·
    have c3_ := c3
    try simp only [sB] at c3
    refine w_seq ?_
    refine w_seq ?_
    refine w_R ?_
    refine qo hnt rfl (s_eql rfl rfl ?_)
    refine qa hnt rfl rfl ?_
    refine r_end ?_
    refine q_then ?_
    refine w_if rfl (fun c4 => ?_) (fun c4 => ?_)
    ·
     have c4_ := c4
     try simp only [sB] at c4
     refine w_skip ?_
     refine q_then ?_
     refine w_if rfl (fun _ => ?_) (fun e => absurd (e.symm.trans c4_) (by decide))
     refine w_R ?_
     refine qa hnt rfl rfl ?_
     refine r_end ?_
     refine q_block ?_
     refine q_then ?_
     refine w_seq ?_
     refine w_R ?_
     refine qo hnt rfl (s_fa_ptr tab_27 rfl rfl tab_3 (by decide) rfl ?_)
     refine qo hnt rfl (s_load_ptr1 tab_3 rfl rfl rfl rfl rfl ?_)
     refine qo hnt rfl (s_geq rfl rfl ?_)
     refine qm hnt rfl rfl ?_
     refine r_cut0 5 [(39,pB ((decide (1 ≤ r.count)) && (decide (r.count ≤ 125))))] ?_ ?_
     ·
      refine r_if tabOk hnt rfl rfl rfl (fun g3 => ?_) (fun g3 => ?_)
      ·
       have g3' := g3
       try simp only [sB] at g3'
       refine qo hnt rfl (s_fa_ptr tab_27 rfl rfl tab_3 (by decide) rfl ?_)
       refine ry hnt rfl rfl rfl g3 ?_
       refine qo hnt rfl (s_load_ptr1 tab_3 rfl rfl rfl rfl rfl ?_)
       refine ry hnt rfl rfl rfl g3 ?_
       refine qm hnt rfl rfl ?_
       refine ry hnt rfl rfl rfl g3 ?_
       refine qo hnt rfl (s_leq rfl rfl ?_)
       refine qo hnt rfl (s_pick_t rfl g3 rfl ?_)
       refine r_eq (s := 39) (y := pB ((decide (1 ≤ r.count)) && (decide (r.count ≤ 125)))) rfl (mix_at g3) ?_
       exact r_mid ⟨⟨rfl,trivial⟩,rfl,rfl⟩
      ·
       have g3' := g3
       try simp only [sB] at g3'
       refine rn hnt rfl rfl rfl g3 ?_
       refine rn hnt rfl rfl rfl g3 ?_
       refine rn hnt rfl rfl rfl g3 ?_
       refine qo hnt rfl (s_pick_f rfl g3 rfl ?_)
       refine r_eq (s := 39) (y := pB ((decide (1 ≤ r.count)) && (decide (r.count ≤ 125)))) rfl (mix_af _ g3) ?_
       exact r_mid ⟨⟨rfl,trivial⟩,rfl,rfl⟩
     ·
      refine qa hnt rfl rfl ?_
      refine r_end ?_
      refine q_then ?_
      refine w_le (s := 2) (y := pB (countsR r)) rfl (le_of_eq (congrArg (fun z : Bool => pB z) (show ((decide (1 ≤ r.count)) && (decide (r.count ≤ 125))) = (countsR r) by first|exact (counts_no (by assumption)).symm|exact (counts_no (by simpa using c1_)).symm|(rw [counts_yes (by first|assumption|simpa using c1_)]; unfold manyOk; first|exact (decide_eq_true (by omega)).symm|exact (decide_eq_false (by omega)).symm|(apply Bool.eq_iff_iff.2; simp only [Bool.and_eq_true,Bool.or_eq_true,decide_eq_true_eq,Bool.not_eq_true',decide_eq_false_iff_not]; try omega))))) ?_
      refine w_ret ?_
      exact fin_plain (ret_tmp rfl ret_nil) rfl rfl ⟨rfl,rfl,rfl⟩
    ·
     have c4_ := c4
     try simp only [sB] at c4
     refine w_R ?_
     refine qo hnt rfl (s_eql rfl rfl ?_)
     refine qa hnt rfl rfl ?_
     refine r_end ?_
     refine q_then ?_
     refine w_if rfl (fun c5 => ?_) (fun c5 => ?_)
     ·
      have c5_ := c5
      try simp only [sB] at c5
      refine w_R ?_
      refine qa hnt rfl rfl ?_
      refine r_end ?_
      refine q_block ?_
      refine q_then ?_
      refine w_seq ?_
      refine w_R ?_
      refine qo hnt rfl (s_fa_ptr tab_27 rfl rfl tab_3 (by decide) rfl ?_)
      refine qo hnt rfl (s_load_ptr1 tab_3 rfl rfl rfl rfl rfl ?_)
      refine qo hnt rfl (s_geq rfl rfl ?_)
      refine qm hnt rfl rfl ?_
      refine r_cut0 5 [(39,pB ((decide (1 ≤ r.count)) && (decide (r.count ≤ 125))))] ?_ ?_
      ·
       refine r_if tabOk hnt rfl rfl rfl (fun g4 => ?_) (fun g4 => ?_)
       ·
        have g4' := g4
        try simp only [sB] at g4'
        refine qo hnt rfl (s_fa_ptr tab_27 rfl rfl tab_3 (by decide) rfl ?_)
        refine ry hnt rfl rfl rfl g4 ?_
        refine qo hnt rfl (s_load_ptr1 tab_3 rfl rfl rfl rfl rfl ?_)
        refine ry hnt rfl rfl rfl g4 ?_
        refine qm hnt rfl rfl ?_
        refine ry hnt rfl rfl rfl g4 ?_
        refine qo hnt rfl (s_leq rfl rfl ?_)
        refine qo hnt rfl (s_pick_t rfl g4 rfl ?_)
        refine r_eq (s := 39) (y := pB ((decide (1 ≤ r.count)) && (decide (r.count ≤ 125)))) rfl (mix_at g4) ?_
        exact r_mid ⟨⟨rfl,trivial⟩,rfl,rfl⟩
       ·
        have g4' := g4
        try simp only [sB] at g4'
        refine rn hnt rfl rfl rfl g4 ?_
        refine rn hnt rfl rfl rfl g4 ?_
        refine rn hnt rfl rfl rfl g4 ?_
        refine qo hnt rfl (s_pick_f rfl g4 rfl ?_)
        refine r_eq (s := 39) (y := pB ((decide (1 ≤ r.count)) && (decide (r.count ≤ 125)))) rfl (mix_af _ g4) ?_
        exact r_mid ⟨⟨rfl,trivial⟩,rfl,rfl⟩
      ·
       refine qa hnt rfl rfl ?_
       refine r_end ?_
       refine q_then ?_
       refine w_le (s := 2) (y := pB (countsR r)) rfl (le_of_eq (congrArg (fun z : Bool => pB z) (show ((decide (1 ≤ r.count)) && (decide (r.count ≤ 125))) = (countsR r) by first|exact (counts_no (by assumption)).symm|exact (counts_no (by simpa using c1_)).symm|(rw [counts_yes (by first|assumption|simpa using c1_)]; unfold manyOk; first|exact (decide_eq_true (by omega)).symm|exact (decide_eq_false (by omega)).symm|(apply Bool.eq_iff_iff.2; simp only [Bool.and_eq_true,Bool.or_eq_true,decide_eq_true_eq,Bool.not_eq_true',decide_eq_false_iff_not]; try omega))))) ?_
       refine w_ret ?_
       exact fin_plain (ret_tmp rfl ret_nil) rfl rfl ⟨rfl,rfl,rfl⟩
     ·
      have c5_ := c5
      try simp only [sB] at c5
      refine w_seq ?_
      refine w_R ?_
      refine qo hnt rfl (s_eql rfl rfl ?_)
      refine qa hnt rfl rfl ?_
      refine r_end ?_
      refine q_then ?_
      refine w_if rfl (fun c6 => ?_) (fun c6 => ?_)
      ·
       have c6_ := c6
       try simp only [sB] at c6
       refine w_R ?_
       refine qa hnt rfl rfl ?_
       refine r_end ?_
       refine q_block ?_
       refine q_then ?_
       refine w_seq ?_
       refine w_R ?_
       refine qo hnt rfl (s_fa_ptr tab_27 rfl rfl tab_3 (by decide) rfl ?_)
       refine qo hnt rfl (s_load_ptr1 tab_3 rfl rfl rfl rfl rfl ?_)
       refine qo hnt rfl (s_geq rfl rfl ?_)
       refine qm hnt rfl rfl ?_
       refine r_cut0 5 [(39,pB ((decide (1 ≤ r.count)) && (decide (r.count ≤ 1968))))] ?_ ?_
       ·
        refine r_if tabOk hnt rfl rfl rfl (fun g5 => ?_) (fun g5 => ?_)
        ·
         have g5' := g5
         try simp only [sB] at g5'
         refine qo hnt rfl (s_fa_ptr tab_27 rfl rfl tab_3 (by decide) rfl ?_)
         refine ry hnt rfl rfl rfl g5 ?_
         refine qo hnt rfl (s_load_ptr1 tab_3 rfl rfl rfl rfl rfl ?_)
         refine ry hnt rfl rfl rfl g5 ?_
         refine qm hnt rfl rfl ?_
         refine ry hnt rfl rfl rfl g5 ?_
         refine qo hnt rfl (s_leq rfl rfl ?_)
         refine qo hnt rfl (s_pick_t rfl g5 rfl ?_)
         refine r_eq (s := 39) (y := pB ((decide (1 ≤ r.count)) && (decide (r.count ≤ 1968)))) rfl (mix_at g5) ?_
         exact r_mid ⟨⟨rfl,trivial⟩,rfl,rfl⟩
        ·
         have g5' := g5
         try simp only [sB] at g5'
         refine rn hnt rfl rfl rfl g5 ?_
         refine rn hnt rfl rfl rfl g5 ?_
         refine rn hnt rfl rfl rfl g5 ?_
         refine qo hnt rfl (s_pick_f rfl g5 rfl ?_)
         refine r_eq (s := 39) (y := pB ((decide (1 ≤ r.count)) && (decide (r.count ≤ 1968)))) rfl (mix_af _ g5) ?_
         exact r_mid ⟨⟨rfl,trivial⟩,rfl,rfl⟩
       ·
        refine qa hnt rfl rfl ?_
        refine r_end ?_
        refine q_then ?_
        refine w_le (s := 2) (y := pB (countsR r)) rfl (le_of_eq (congrArg (fun z : Bool => pB z) (show ((decide (1 ≤ r.count)) && (decide (r.count ≤ 1968))) = (countsR r) by first|exact (counts_no (by assumption)).symm|exact (counts_no (by simpa using c1_)).symm|(rw [counts_yes (by first|assumption|simpa using c1_)]; unfold manyOk; first|exact (decide_eq_true (by omega)).symm|exact (decide_eq_false (by omega)).symm|(apply Bool.eq_iff_iff.2; simp only [Bool.and_eq_true,Bool.or_eq_true,decide_eq_true_eq,Bool.not_eq_true',decide_eq_false_iff_not]; try omega))))) ?_
        refine w_ret ?_
        exact fin_plain (ret_tmp rfl ret_nil) rfl rfl ⟨rfl,rfl,rfl⟩
      ·
       have c6_ := c6
       try simp only [sB] at c6
       refine w_seq ?_
       refine w_R ?_
       refine qo hnt rfl (s_eql rfl rfl ?_)
       refine qa hnt rfl rfl ?_
       refine r_end ?_
       refine q_then ?_
       refine w_if rfl (fun c7 => ?_) (fun c7 => ?_)
       ·
        have c7_ := c7
        try simp only [sB] at c7
        refine w_R ?_
        refine qa hnt rfl rfl ?_
        refine r_end ?_
        refine q_block ?_
        refine q_then ?_
        refine w_seq ?_
        refine w_R ?_
        refine qo hnt rfl (s_fa_ptr tab_27 rfl rfl tab_3 (by decide) rfl ?_)
        refine qo hnt rfl (s_load_ptr1 tab_3 rfl rfl rfl rfl rfl ?_)
        refine qo hnt rfl (s_geq rfl rfl ?_)
        refine qm hnt rfl rfl ?_
        refine r_cut0 5 [(39,pB ((decide (1 ≤ r.count)) && (decide (r.count ≤ 123))))] ?_ ?_
        ·
         refine r_if tabOk hnt rfl rfl rfl (fun g6 => ?_) (fun g6 => ?_)
         ·
          have g6' := g6
          try simp only [sB] at g6'
          refine qo hnt rfl (s_fa_ptr tab_27 rfl rfl tab_3 (by decide) rfl ?_)
          refine ry hnt rfl rfl rfl g6 ?_
          refine qo hnt rfl (s_load_ptr1 tab_3 rfl rfl rfl rfl rfl ?_)
          refine ry hnt rfl rfl rfl g6 ?_
          refine qm hnt rfl rfl ?_
          refine ry hnt rfl rfl rfl g6 ?_
          refine qo hnt rfl (s_leq rfl rfl ?_)
          refine qo hnt rfl (s_pick_t rfl g6 rfl ?_)
          refine r_eq (s := 39) (y := pB ((decide (1 ≤ r.count)) && (decide (r.count ≤ 123)))) rfl (mix_at g6) ?_
          exact r_mid ⟨⟨rfl,trivial⟩,rfl,rfl⟩
         ·
          have g6' := g6
          try simp only [sB] at g6'
          refine rn hnt rfl rfl rfl g6 ?_
          refine rn hnt rfl rfl rfl g6 ?_
          refine rn hnt rfl rfl rfl g6 ?_
          refine qo hnt rfl (s_pick_f rfl g6 rfl ?_)
          refine r_eq (s := 39) (y := pB ((decide (1 ≤ r.count)) && (decide (r.count ≤ 123)))) rfl (mix_af _ g6) ?_
          exact r_mid ⟨⟨rfl,trivial⟩,rfl,rfl⟩
        ·
         refine qa hnt rfl rfl ?_
         refine r_end ?_
         refine q_then ?_
         refine w_le (s := 2) (y := pB (countsR r)) rfl (le_of_eq (congrArg (fun z : Bool => pB z) (show ((decide (1 ≤ r.count)) && (decide (r.count ≤ 123))) = (countsR r) by first|exact (counts_no (by assumption)).symm|exact (counts_no (by simpa using c1_)).symm|(rw [counts_yes (by first|assumption|simpa using c1_)]; unfold manyOk; first|exact (decide_eq_true (by omega)).symm|exact (decide_eq_false (by omega)).symm|(apply Bool.eq_iff_iff.2; simp only [Bool.and_eq_true,Bool.or_eq_true,decide_eq_true_eq,Bool.not_eq_true',decide_eq_false_iff_not]; try omega))))) ?_
         refine w_ret ?_
         exact fin_plain (ret_tmp rfl ret_nil) rfl rfl ⟨rfl,rfl,rfl⟩
       ·
        have c7_ := c7
        try simp only [sB] at c7
        refine w_seq ?_
        refine w_R ?_
        refine qo hnt rfl (s_eql rfl rfl ?_)
        refine qa hnt rfl rfl ?_
        refine r_end ?_
        refine q_then ?_
        refine w_if rfl (fun c8 => ?_) (fun c8 => ?_)
        ·
         have c8_ := c8
         try simp only [sB] at c8
         refine w_seq ?_
         refine w_seq ?_
         refine w_R ?_
         refine qo hnt rfl (s_fa_ptr tab_27 rfl rfl tab_24 (by decide) rfl ?_)
         refine qo hnt rfl (s_load_ptr1 tab_24 rfl rfl rfl rfl rfl ?_)
         refine qo hnt rfl (s_lenM (l := r.vals) tab_24 rfl (hM_sl (f := enc16) rfl) ?_)
         refine qo hnt rfl (s_lss rfl rfl ?_)
         refine qm hnt rfl rfl ?_
         refine r_cut0 5 [(1,PV.ptr 0 0),(30,pB ((decide (((r.vals.length : Nat) : Int) < 1)) || (decide (121 < ((r.vals.length : Nat) : Int)))))] ?_ ?_
         ·
          refine r_if tabOk hnt rfl rfl rfl (fun g7 => ?_) (fun g7 => ?_)
          ·
           have g7' := g7
           try simp only [sB] at g7'
           refine qo hnt rfl (s_fa_ptr tab_27 rfl rfl tab_24 (by decide) rfl ?_)
           refine ry hnt rfl rfl rfl g7 ?_
           refine qo hnt rfl (s_load_ptr1 tab_24 rfl rfl rfl rfl rfl ?_)
           refine ry hnt rfl rfl rfl g7 ?_
           refine qo hnt rfl (s_lenM (l := r.vals) tab_24 rfl (hM_sl (f := enc16) rfl) ?_)
           refine ry hnt rfl rfl rfl g7 ?_
           refine qo hnt rfl (s_gtr rfl rfl ?_)
           refine qo hnt rfl (s_pick_f rfl g7 rfl ?_)
           refine r_eq (s := 30) (y := pB ((decide (((r.vals.length : Nat) : Int) < 1)) || (decide (121 < ((r.vals.length : Nat) : Int))))) rfl (mix_of g7) ?_
           exact r_mid ⟨⟨rfl,rfl,trivial⟩,rfl,rfl⟩
          ·
           have g7' := g7
           try simp only [sB] at g7'
           refine rn hnt rfl rfl rfl g7 ?_
           refine rn hnt rfl rfl rfl g7 ?_
           refine rn hnt rfl rfl rfl g7 ?_
           refine qo hnt rfl (s_pick_t rfl g7 rfl ?_)
           refine r_eq (s := 30) (y := pB ((decide (((r.vals.length : Nat) : Int) < 1)) || (decide (121 < ((r.vals.length : Nat) : Int))))) rfl (mix_ot _ g7) ?_
           exact r_mid ⟨⟨rfl,rfl,trivial⟩,rfl,rfl⟩
         ·
          refine r_end ?_
          refine q_then ?_
          refine w_if rfl (fun c9 => ?_) (fun c9 => ?_)
          ·
           have c9_ := c9
           try simp only [sB] at c9
           try simp only [Bool.or_eq_true,decide_eq_true_eq] at c9
           refine w_seq ?_
           refine w_R ?_
           refine qa hnt rfl rfl ?_
           refine r_end ?_
           refine q_then ?_
           refine w_le (s := 2) (y := pB (countsR r)) rfl (le_of_eq (congrArg (fun z : Bool => pB z) (show false = (countsR r) by first|exact (counts_no (by assumption)).symm|exact (counts_no (by simpa using c1_)).symm|(rw [counts_yes (by first|assumption|simpa using c1_)]; unfold manyOk; first|exact (decide_eq_true (by omega)).symm|exact (decide_eq_false (by omega)).symm|(apply Bool.eq_iff_iff.2; simp only [Bool.and_eq_true,Bool.or_eq_true,decide_eq_true_eq,Bool.not_eq_true',decide_eq_false_iff_not]; try omega))))) ?_
           refine w_ret ?_
           refine q_then_ret ?_
           refine q_block_ret ?_
           refine q_then_ret ?_
           exact fin_plain (ret_tmp rfl ret_nil) rfl rfl ⟨rfl,rfl,rfl⟩
          ·
           have c9_ := c9
           try simp only [sB] at c9
           try simp only [Bool.or_eq_false_iff,decide_eq_false_iff_not] at c9
           refine w_skip ?_
           refine q_then ?_
           refine w_R ?_
           refine qa hnt rfl rfl ?_
           refine r_end ?_
           refine q_block ?_
           refine q_then ?_
           refine w_seq ?_
           refine w_R ?_
           refine qo hnt rfl (s_fa_ptr tab_27 rfl rfl tab_3 (by decide) rfl ?_)
           refine qo hnt rfl (s_load_ptr1 tab_3 rfl rfl rfl rfl rfl ?_)
           refine qo hnt rfl (s_geq rfl rfl ?_)
           refine qm hnt rfl rfl ?_
           refine r_cut0 5 [(39,pB ((decide (1 ≤ r.count)) && (decide (r.count ≤ 125))))] ?_ ?_
           ·
            refine r_if tabOk hnt rfl rfl rfl (fun g8 => ?_) (fun g8 => ?_)
            ·
             have g8' := g8
             try simp only [sB] at g8'
             refine qo hnt rfl (s_fa_ptr tab_27 rfl rfl tab_3 (by decide) rfl ?_)
             refine ry hnt rfl rfl rfl g8 ?_
             refine qo hnt rfl (s_load_ptr1 tab_3 rfl rfl rfl rfl rfl ?_)
             refine ry hnt rfl rfl rfl g8 ?_
             refine qm hnt rfl rfl ?_
             refine ry hnt rfl rfl rfl g8 ?_
             refine qo hnt rfl (s_leq rfl rfl ?_)
             refine qo hnt rfl (s_pick_t rfl g8 rfl ?_)
             refine r_eq (s := 39) (y := pB ((decide (1 ≤ r.count)) && (decide (r.count ≤ 125)))) rfl (mix_at g8) ?_
             exact r_mid ⟨⟨rfl,trivial⟩,rfl,rfl⟩
            ·
             have g8' := g8
             try simp only [sB] at g8'
             refine rn hnt rfl rfl rfl g8 ?_
             refine rn hnt rfl rfl rfl g8 ?_
             refine rn hnt rfl rfl rfl g8 ?_
             refine qo hnt rfl (s_pick_f rfl g8 rfl ?_)
             refine r_eq (s := 39) (y := pB ((decide (1 ≤ r.count)) && (decide (r.count ≤ 125)))) rfl (mix_af _ g8) ?_
             exact r_mid ⟨⟨rfl,trivial⟩,rfl,rfl⟩
           ·
            refine qa hnt rfl rfl ?_
            refine r_end ?_
            refine q_then ?_
            refine w_le (s := 2) (y := pB (countsR r)) rfl (le_of_eq (congrArg (fun z : Bool => pB z) (show ((decide (1 ≤ r.count)) && (decide (r.count ≤ 125))) = (countsR r) by first|exact (counts_no (by assumption)).symm|exact (counts_no (by simpa using c1_)).symm|(rw [counts_yes (by first|assumption|simpa using c1_)]; unfold manyOk; first|exact (decide_eq_true (by omega)).symm|exact (decide_eq_false (by omega)).symm|(apply Bool.eq_iff_iff.2; simp only [Bool.and_eq_true,Bool.or_eq_true,decide_eq_true_eq,Bool.not_eq_true',decide_eq_false_iff_not]; try omega))))) ?_
            refine w_ret ?_
            exact fin_plain (ret_tmp rfl ret_nil) rfl rfl ⟨rfl,rfl,rfl⟩
        ·
         have c8_ := c8
         try simp only [sB] at c8
         refine w_seq ?_
         refine w_R ?_
         refine qa hnt rfl rfl ?_
         refine r_end ?_
         refine q_then ?_
         refine w_le (s := 2) (y := pB (countsR r)) rfl (le_of_eq (congrArg (fun z : Bool => pB z) (show true = (countsR r) by first|exact (counts_no (by assumption)).symm|exact (counts_no (by simpa using c1_)).symm|(rw [counts_yes (by first|assumption|simpa using c1_)]; unfold manyOk; first|exact (decide_eq_true (by omega)).symm|exact (decide_eq_false (by omega)).symm|(apply Bool.eq_iff_iff.2; simp only [Bool.and_eq_true,Bool.or_eq_true,decide_eq_true_eq,Bool.not_eq_true',decide_eq_false_iff_not]; try omega))))) ?_
         refine w_ret ?_
         refine q_block_ret ?_
         refine q_then_ret ?_
         exact fin_plain (ret_tmp rfl ret_nil) rfl rfl ⟨rfl,rfl,rfl⟩
theorem w_pdu_Same (a : TRequest) (b : TRequest) (ha : a.bits.length ≤ 140737488351232 ∧ a.vals.length ≤ 140737488351232) :
    T Try.prog 27 [PV.f (eRequest a),PV.f (eRequest b)] 0 [] (Ret (pB (decide (a = b))) 0 []) := by
 refine t_fun tabOk (n := 66) (rs := [.tmp 4]) Try.func27 rfl rfl rfl rfl (Nat.le_of_ble_eq_true rfl) ?_
 intro c hnt hk
 refine w_seq ?_
 refine w_R ?_
 refine qo hnt rfl (s_box rfl rfl ?_)
 refine qo hnt rfl (s_box rfl rfl ?_)
 refine qa hnt rfl rfl ?_
 refine r_set [(2,PV.ptr 0 0),(3,PV.ptr 1 0)] [(1,.obj [pI b.fn,pI b.at_,pI b.count,pI b.wAt,pI b.sub,pS 1 false encBo b.bits,pS 1 false enc16 b.vals,p16 b.and_,p16 b.or_]),(0,.obj [pI a.fn,pI a.at_,pI a.count,pI a.wAt,pI a.sub,pS 1 false encBo a.bits,pS 1 false enc16 a.vals,p16 a.and_,p16 a.or_])] 2 ⟨rfl,rfl,trivial⟩ rfl rfl ?_
 refine r_end ?_
 refine q_then ?_
 refine w_seq ?_
 refine w_R ?_
 refine qo hnt rfl (s_fa_ptr tab_27 rfl rfl tab_3 (by decide) rfl ?_)
 refine qo hnt rfl (s_load_ptr1 tab_3 rfl rfl rfl rfl rfl ?_)
 refine qo hnt rfl (s_fa_ptr tab_27 rfl rfl tab_3 (by decide) rfl ?_)
 refine qo hnt rfl (s_load_ptr1 tab_3 rfl rfl rfl rfl rfl ?_)
 refine qo hnt rfl (s_eql rfl rfl ?_)
 refine qm hnt rfl rfl ?_
 refine r_cut0 6 [(2,PV.ptr 0 0),(3,PV.ptr 1 0),(16,pB ((decide (a.fn = b.fn)) && (decide (a.at_ = b.at_))))] ?_ ?_
 ·
  refine r_if tabOk hnt rfl rfl rfl (fun g1 => ?_) (fun g1 => ?_)
  ·
   have g1' := g1
   try simp only [sB] at g1'
   refine qo hnt rfl (s_fa_ptr tab_27 rfl rfl tab_3 (by decide) rfl ?_)
   refine ry hnt rfl rfl rfl g1 ?_
   refine qo hnt rfl (s_load_ptr1 tab_3 rfl rfl rfl rfl rfl ?_)
   refine ry hnt rfl rfl rfl g1 ?_
   refine qo hnt rfl (s_fa_ptr tab_27 rfl rfl tab_3 (by decide) rfl ?_)
   refine ry hnt rfl rfl rfl g1 ?_
   refine qo hnt rfl (s_load_ptr1 tab_3 rfl rfl rfl rfl rfl ?_)
   refine ry hnt rfl rfl rfl g1 ?_
   refine qo hnt rfl (s_eql rfl rfl ?_)
   refine qo hnt rfl (s_pick_t rfl g1 rfl ?_)
   refine r_eq (s := 16) (y := pB ((decide (a.fn = b.fn)) && (decide (a.at_ = b.at_)))) rfl (mix_at g1) ?_
   exact r_mid ⟨⟨rfl,rfl,rfl,trivial⟩,rfl,rfl⟩
  ·
   have g1' := g1
   try simp only [sB] at g1'
   refine rn hnt rfl rfl rfl g1 ?_
   refine rn hnt rfl rfl rfl g1 ?_
   refine rn hnt rfl rfl rfl g1 ?_
   refine rn hnt rfl rfl rfl g1 ?_
   refine qo hnt rfl (s_pick_f rfl g1 rfl ?_)
   refine r_eq (s := 16) (y := pB ((decide (a.fn = b.fn)) && (decide (a.at_ = b.at_)))) rfl (mix_af _ g1) ?_
   exact r_mid ⟨⟨rfl,rfl,rfl,trivial⟩,rfl,rfl⟩
 ·
  refine qm hnt rfl rfl ?_
  refine r_cut0 6 [(2,PV.ptr 0 0),(3,PV.ptr 1 0),(23,pB (((decide (a.fn = b.fn)) && (decide (a.at_ = b.at_))) && (decide (a.count = b.count))))] ?_ ?_
  ·
   refine r_if tabOk hnt rfl rfl rfl (fun g2 => ?_) (fun g2 => ?_)
   ·
    have g2' := g2
    try simp only [sB] at g2'
    refine qo hnt rfl (s_fa_ptr tab_27 rfl rfl tab_3 (by decide) rfl ?_)
    refine ry hnt rfl rfl rfl g2 ?_
    refine qo hnt rfl (s_load_ptr1 tab_3 rfl rfl rfl rfl rfl ?_)
    refine ry hnt rfl rfl rfl g2 ?_
    refine qo hnt rfl (s_fa_ptr tab_27 rfl rfl tab_3 (by decide) rfl ?_)
    refine ry hnt rfl rfl rfl g2 ?_
    refine qo hnt rfl (s_load_ptr1 tab_3 rfl rfl rfl rfl rfl ?_)
    refine ry hnt rfl rfl rfl g2 ?_
    refine qo hnt rfl (s_eql rfl rfl ?_)
    refine qo hnt rfl (s_pick_t rfl g2 rfl ?_)
    refine r_eq (s := 23) (y := pB (((decide (a.fn = b.fn)) && (decide (a.at_ = b.at_))) && (decide (a.count = b.count)))) rfl (mix_at g2) ?_
    exact r_mid ⟨⟨rfl,rfl,rfl,trivial⟩,rfl,rfl⟩
   ·
    have g2' := g2
    try simp only [sB] at g2'
    refine rn hnt rfl rfl rfl g2 ?_
    refine rn hnt rfl rfl rfl g2 ?_
    refine rn hnt rfl rfl rfl g2 ?_
    refine rn hnt rfl rfl rfl g2 ?_
    refine qo hnt rfl (s_pick_f rfl g2 rfl ?_)
    refine r_eq (s := 23) (y := pB (((decide (a.fn = b.fn)) && (decide (a.at_ = b.at_))) && (decide (a.count = b.count)))) rfl (mix_af _ g2) ?_
    exact r_mid ⟨⟨rfl,rfl,rfl,trivial⟩,rfl,rfl⟩
  ·
   refine qm hnt rfl rfl ?_
   refine r_cut0 6 [(2,PV.ptr 0 0),(3,PV.ptr 1 0),(30,pB ((((decide (a.fn = b.fn)) && (decide (a.at_ = b.at_))) && (decide (a.count = b.count))) && (decide (a.wAt = b.wAt))))] ?_ ?_
   ·
    refine r_if tabOk hnt rfl rfl rfl (fun g3 => ?_) (fun g3 => ?_)
    ·
     have g3' := g3
     try simp only [sB] at g3'
     refine qo hnt rfl (s_fa_ptr tab_27 rfl rfl tab_3 (by decide) rfl ?_)
     refine ry hnt rfl rfl rfl g3 ?_
     refine qo hnt rfl (s_load_ptr1 tab_3 rfl rfl rfl rfl rfl ?_)
     refine ry hnt rfl rfl rfl g3 ?_
     refine qo hnt rfl (s_fa_ptr tab_27 rfl rfl tab_3 (by decide) rfl ?_)
     refine ry hnt rfl rfl rfl g3 ?_
     refine qo hnt rfl (s_load_ptr1 tab_3 rfl rfl rfl rfl rfl ?_)
     refine ry hnt rfl rfl rfl g3 ?_
     refine qo hnt rfl (s_eql rfl rfl ?_)
     refine qo hnt rfl (s_pick_t rfl g3 rfl ?_)
     refine r_eq (s := 30) (y := pB ((((decide (a.fn = b.fn)) && (decide (a.at_ = b.at_))) && (decide (a.count = b.count))) && (decide (a.wAt = b.wAt)))) rfl (mix_at g3) ?_
     exact r_mid ⟨⟨rfl,rfl,rfl,trivial⟩,rfl,rfl⟩
    ·
     have g3' := g3
     try simp only [sB] at g3'
     refine rn hnt rfl rfl rfl g3 ?_
     refine rn hnt rfl rfl rfl g3 ?_
     refine rn hnt rfl rfl rfl g3 ?_
     refine rn hnt rfl rfl rfl g3 ?_
     refine qo hnt rfl (s_pick_f rfl g3 rfl ?_)
     refine r_eq (s := 30) (y := pB ((((decide (a.fn = b.fn)) && (decide (a.at_ = b.at_))) && (decide (a.count = b.count))) && (decide (a.wAt = b.wAt)))) rfl (mix_af _ g3) ?_
     exact r_mid ⟨⟨rfl,rfl,rfl,trivial⟩,rfl,rfl⟩
   ·
    refine qm hnt rfl rfl ?_
    refine r_cut0 6 [(2,PV.ptr 0 0),(3,PV.ptr 1 0),(37,pB (((((decide (a.fn = b.fn)) && (decide (a.at_ = b.at_))) && (decide (a.count = b.count))) && (decide (a.wAt = b.wAt))) && (decide (a.sub = b.sub))))] ?_ ?_
    ·
     refine r_if tabOk hnt rfl rfl rfl (fun g4 => ?_) (fun g4 => ?_)
     ·
      have g4' := g4
      try simp only [sB] at g4'
      refine qo hnt rfl (s_fa_ptr tab_27 rfl rfl tab_3 (by decide) rfl ?_)
      refine ry hnt rfl rfl rfl g4 ?_
      refine qo hnt rfl (s_load_ptr1 tab_3 rfl rfl rfl rfl rfl ?_)
      refine ry hnt rfl rfl rfl g4 ?_
      refine qo hnt rfl (s_fa_ptr tab_27 rfl rfl tab_3 (by decide) rfl ?_)
      refine ry hnt rfl rfl rfl g4 ?_
      refine qo hnt rfl (s_load_ptr1 tab_3 rfl rfl rfl rfl rfl ?_)
      refine ry hnt rfl rfl rfl g4 ?_
      refine qo hnt rfl (s_eql rfl rfl ?_)
      refine qo hnt rfl (s_pick_t rfl g4 rfl ?_)
      refine r_eq (s := 37) (y := pB (((((decide (a.fn = b.fn)) && (decide (a.at_ = b.at_))) && (decide (a.count = b.count))) && (decide (a.wAt = b.wAt))) && (decide (a.sub = b.sub)))) rfl (mix_at g4) ?_
      exact r_mid ⟨⟨rfl,rfl,rfl,trivial⟩,rfl,rfl⟩
     ·
      have g4' := g4
      try simp only [sB] at g4'
      refine rn hnt rfl rfl rfl g4 ?_
      refine rn hnt rfl rfl rfl g4 ?_
      refine rn hnt rfl rfl rfl g4 ?_
      refine rn hnt rfl rfl rfl g4 ?_
      refine qo hnt rfl (s_pick_f rfl g4 rfl ?_)
      refine r_eq (s := 37) (y := pB (((((decide (a.fn = b.fn)) && (decide (a.at_ = b.at_))) && (decide (a.count = b.count))) && (decide (a.wAt = b.wAt))) && (decide (a.sub = b.sub)))) rfl (mix_af _ g4) ?_
      exact r_mid ⟨⟨rfl,rfl,rfl,trivial⟩,rfl,rfl⟩
    ·
     refine qm hnt rfl rfl ?_
     refine r_cut0 6 [(2,PV.ptr 0 0),(3,PV.ptr 1 0),(44,pB ((((((decide (a.fn = b.fn)) && (decide (a.at_ = b.at_))) && (decide (a.count = b.count))) && (decide (a.wAt = b.wAt))) && (decide (a.sub = b.sub))) && (decide (a.and_ = b.and_))))] ?_ ?_
     ·
      refine r_if tabOk hnt rfl rfl rfl (fun g5 => ?_) (fun g5 => ?_)
      ·
       have g5' := g5
       try simp only [sB] at g5'
       refine qo hnt rfl (s_fa_ptr tab_27 rfl rfl tab_25 (by decide) rfl ?_)
       refine ry hnt rfl rfl rfl g5 ?_
       refine qo hnt rfl (s_load_ptr1 tab_25 rfl rfl rfl rfl rfl ?_)
       refine ry hnt rfl rfl rfl g5 ?_
       refine qo hnt rfl (s_fa_ptr tab_27 rfl rfl tab_25 (by decide) rfl ?_)
       refine ry hnt rfl rfl rfl g5 ?_
       refine qo hnt rfl (s_load_ptr1 tab_25 rfl rfl rfl rfl rfl ?_)
       refine ry hnt rfl rfl rfl g5 ?_
       refine qo hnt rfl (s_eql16 (a := a.and_) (b := b.and_) rfl rfl ?_)
       refine qo hnt rfl (s_pick_t rfl g5 rfl ?_)
       refine r_eq (s := 44) (y := pB ((((((decide (a.fn = b.fn)) && (decide (a.at_ = b.at_))) && (decide (a.count = b.count))) && (decide (a.wAt = b.wAt))) && (decide (a.sub = b.sub))) && (decide (a.and_ = b.and_)))) rfl (mix_at g5) ?_
       exact r_mid ⟨⟨rfl,rfl,rfl,trivial⟩,rfl,rfl⟩
      ·
       have g5' := g5
       try simp only [sB] at g5'
       refine rn hnt rfl rfl rfl g5 ?_
       refine rn hnt rfl rfl rfl g5 ?_
       refine rn hnt rfl rfl rfl g5 ?_
       refine rn hnt rfl rfl rfl g5 ?_
       refine qo hnt rfl (s_pick_f rfl g5 rfl ?_)
       refine r_eq (s := 44) (y := pB ((((((decide (a.fn = b.fn)) && (decide (a.at_ = b.at_))) && (decide (a.count = b.count))) && (decide (a.wAt = b.wAt))) && (decide (a.sub = b.sub))) && (decide (a.and_ = b.and_)))) rfl (mix_af _ g5) ?_
       exact r_mid ⟨⟨rfl,rfl,rfl,trivial⟩,rfl,rfl⟩
     ·
      refine qm hnt rfl rfl ?_
      refine r_cut0 6 [(2,PV.ptr 0 0),(3,PV.ptr 1 0),(51,pB (((((((decide (a.fn = b.fn)) && (decide (a.at_ = b.at_))) && (decide (a.count = b.count))) && (decide (a.wAt = b.wAt))) && (decide (a.sub = b.sub))) && (decide (a.and_ = b.and_))) && (decide (a.or_ = b.or_))))] ?_ ?_
      ·
       refine r_if tabOk hnt rfl rfl rfl (fun g6 => ?_) (fun g6 => ?_)
       ·
        have g6' := g6
        try simp only [sB] at g6'
        refine qo hnt rfl (s_fa_ptr tab_27 rfl rfl tab_25 (by decide) rfl ?_)
        refine ry hnt rfl rfl rfl g6 ?_
        refine qo hnt rfl (s_load_ptr1 tab_25 rfl rfl rfl rfl rfl ?_)
        refine ry hnt rfl rfl rfl g6 ?_
        refine qo hnt rfl (s_fa_ptr tab_27 rfl rfl tab_25 (by decide) rfl ?_)
        refine ry hnt rfl rfl rfl g6 ?_
        refine qo hnt rfl (s_load_ptr1 tab_25 rfl rfl rfl rfl rfl ?_)
        refine ry hnt rfl rfl rfl g6 ?_
        refine qo hnt rfl (s_eql16 (a := a.or_) (b := b.or_) rfl rfl ?_)
        refine qo hnt rfl (s_pick_t rfl g6 rfl ?_)
        refine r_eq (s := 51) (y := pB (((((((decide (a.fn = b.fn)) && (decide (a.at_ = b.at_))) && (decide (a.count = b.count))) && (decide (a.wAt = b.wAt))) && (decide (a.sub = b.sub))) && (decide (a.and_ = b.and_))) && (decide (a.or_ = b.or_)))) rfl (mix_at g6) ?_
        exact r_mid ⟨⟨rfl,rfl,rfl,trivial⟩,rfl,rfl⟩
       ·
        have g6' := g6
        try simp only [sB] at g6'
        refine rn hnt rfl rfl rfl g6 ?_
        refine rn hnt rfl rfl rfl g6 ?_
        refine rn hnt rfl rfl rfl g6 ?_
        refine rn hnt rfl rfl rfl g6 ?_
        refine qo hnt rfl (s_pick_f rfl g6 rfl ?_)
        refine r_eq (s := 51) (y := pB (((((((decide (a.fn = b.fn)) && (decide (a.at_ = b.at_))) && (decide (a.count = b.count))) && (decide (a.wAt = b.wAt))) && (decide (a.sub = b.sub))) && (decide (a.and_ = b.and_))) && (decide (a.or_ = b.or_)))) rfl (mix_af _ g6) ?_
        exact r_mid ⟨⟨rfl,rfl,rfl,trivial⟩,rfl,rfl⟩
      ·
       refine qm hnt rfl rfl ?_
       refine r_cut0 6 [(2,PV.ptr 0 0),(3,PV.ptr 1 0),(58,pB ((((((((decide (a.fn = b.fn)) && (decide (a.at_ = b.at_))) && (decide (a.count = b.count))) && (decide (a.wAt = b.wAt))) && (decide (a.sub = b.sub))) && (decide (a.and_ = b.and_))) && (decide (a.or_ = b.or_))) && (decide (a.bits = b.bits))))] ?_ ?_
       ·
        refine r_if tabOk hnt rfl rfl rfl (fun g7 => ?_) (fun g7 => ?_)
        ·
         have g7' := g7
         try simp only [sB] at g7'
         refine qo hnt rfl (s_fa_ptr tab_27 rfl rfl tab_23 (by decide) rfl ?_)
         refine ry hnt rfl rfl rfl g7 ?_
         refine qo hnt rfl (s_load_ptr1 tab_23 rfl rfl rfl rfl rfl ?_)
         refine ry hnt rfl rfl rfl g7 ?_
         refine qo hnt rfl (s_fa_ptr tab_27 rfl rfl tab_23 (by decide) rfl ?_)
         refine ry hnt rfl rfl rfl g7 ?_
         refine qo hnt rfl (s_load_ptr1 tab_23 rfl rfl rfl rfl rfl ?_)
         refine ry hnt rfl rfl rfl g7 ?_
         refine qo hnt rfl (s_callF rfl rfl rfl (w_slices_Equal_bool_bool a.bits false b.bits false (by first|omega|assumption|(simp; omega)|decide|(simp; done))) rfl ?_)
         refine qo hnt rfl (s_pick_t rfl g7 rfl ?_)
         refine r_eq (s := 58) (y := pB ((((((((decide (a.fn = b.fn)) && (decide (a.at_ = b.at_))) && (decide (a.count = b.count))) && (decide (a.wAt = b.wAt))) && (decide (a.sub = b.sub))) && (decide (a.and_ = b.and_))) && (decide (a.or_ = b.or_))) && (decide (a.bits = b.bits)))) rfl (mix_at g7) ?_
         exact r_mid ⟨⟨rfl,rfl,rfl,trivial⟩,rfl,rfl⟩
        ·
         have g7' := g7
         try simp only [sB] at g7'
         refine rn hnt rfl rfl rfl g7 ?_
         refine rn hnt rfl rfl rfl g7 ?_
         refine rn hnt rfl rfl rfl g7 ?_
         refine rn hnt rfl rfl rfl g7 ?_
         refine qo hnt rfl (s_pick_f rfl g7 rfl ?_)
         refine r_eq (s := 58) (y := pB ((((((((decide (a.fn = b.fn)) && (decide (a.at_ = b.at_))) && (decide (a.count = b.count))) && (decide (a.wAt = b.wAt))) && (decide (a.sub = b.sub))) && (decide (a.and_ = b.and_))) && (decide (a.or_ = b.or_))) && (decide (a.bits = b.bits)))) rfl (mix_af _ g7) ?_
         exact r_mid ⟨⟨rfl,rfl,rfl,trivial⟩,rfl,rfl⟩
       ·
        refine qm hnt rfl rfl ?_
        refine r_cut0 6 [(65,pB (((((((((decide (a.fn = b.fn)) && (decide (a.at_ = b.at_))) && (decide (a.count = b.count))) && (decide (a.wAt = b.wAt))) && (decide (a.sub = b.sub))) && (decide (a.and_ = b.and_))) && (decide (a.or_ = b.or_))) && (decide (a.bits = b.bits))) && (decide (a.vals = b.vals))))] ?_ ?_
        ·
         refine r_if tabOk hnt rfl rfl rfl (fun g8 => ?_) (fun g8 => ?_)
         ·
          have g8' := g8
          try simp only [sB] at g8'
          refine qo hnt rfl (s_fa_ptr tab_27 rfl rfl tab_24 (by decide) rfl ?_)
          refine ry hnt rfl rfl rfl g8 ?_
          refine qo hnt rfl (s_load_ptr1 tab_24 rfl rfl rfl rfl rfl ?_)
          refine ry hnt rfl rfl rfl g8 ?_
          refine qo hnt rfl (s_fa_ptr tab_27 rfl rfl tab_24 (by decide) rfl ?_)
          refine ry hnt rfl rfl rfl g8 ?_
          refine qo hnt rfl (s_load_ptr1 tab_24 rfl rfl rfl rfl rfl ?_)
          refine ry hnt rfl rfl rfl g8 ?_
          refine qo hnt rfl (s_callF rfl rfl rfl (w_slices_Equal_uint16_uint16 a.vals false b.vals false (by first|omega|assumption|(simp; omega)|decide|(simp; done))) rfl ?_)
          refine qo hnt rfl (s_pick_t rfl g8 rfl ?_)
          refine r_eq (s := 65) (y := pB (((((((((decide (a.fn = b.fn)) && (decide (a.at_ = b.at_))) && (decide (a.count = b.count))) && (decide (a.wAt = b.wAt))) && (decide (a.sub = b.sub))) && (decide (a.and_ = b.and_))) && (decide (a.or_ = b.or_))) && (decide (a.bits = b.bits))) && (decide (a.vals = b.vals)))) rfl (mix_at g8) ?_
          exact r_mid ⟨⟨rfl,trivial⟩,rfl,rfl⟩
         ·
          have g8' := g8
          try simp only [sB] at g8'
          refine rn hnt rfl rfl rfl g8 ?_
          refine rn hnt rfl rfl rfl g8 ?_
          refine rn hnt rfl rfl rfl g8 ?_
          refine rn hnt rfl rfl rfl g8 ?_
          refine qo hnt rfl (s_pick_f rfl g8 rfl ?_)
          refine r_eq (s := 65) (y := pB (((((((((decide (a.fn = b.fn)) && (decide (a.at_ = b.at_))) && (decide (a.count = b.count))) && (decide (a.wAt = b.wAt))) && (decide (a.sub = b.sub))) && (decide (a.and_ = b.and_))) && (decide (a.or_ = b.or_))) && (decide (a.bits = b.bits))) && (decide (a.vals = b.vals)))) rfl (mix_af _ g8) ?_
          exact r_mid ⟨⟨rfl,trivial⟩,rfl,rfl⟩
        ·
         refine qa hnt rfl rfl ?_
         refine r_end ?_
         refine q_then ?_
         refine w_le (s := 4) (y := pB (decide (a = b))) rfl (le_of_eq (congrArg (fun z : Bool => pB z) (show (((((((((decide (a.fn = b.fn)) && (decide (a.at_ = b.at_))) && (decide (a.count = b.count))) && (decide (a.wAt = b.wAt))) && (decide (a.sub = b.sub))) && (decide (a.and_ = b.and_))) && (decide (a.or_ = b.or_))) && (decide (a.bits = b.bits))) && (decide (a.vals = b.vals))) = (decide (a = b)) by apply Bool.eq_iff_iff.2; simp only [Bool.and_eq_true,decide_eq_true_eq]; cases a; cases b; simp only [TRequest.mk.injEq]; constructor <;> (intro h; simp_all)))) ?_
         refine w_ret ?_
         exact fin_plain (ret_tmp rfl ret_nil) rfl rfl ⟨rfl,rfl,rfl⟩
theorem w_pdu_Read (b : List UInt8) (cl_b : Bool) (R : TRequest × Int) (hR : R = readWith guessP b) (hb : b.length ≤ 140737488351232) :
    T Try.prog 25 [pS 1 cl_b enc8 b] 0 [] (Ret (PV.tup [PV.f (eRequest R.1),pI R.2]) 0 []) := by
 refine t_fun tabOk (n := 37) (rs := [.cell 2 27,.tmp 3]) Try.func25 rfl rfl rfl rfl (Nat.le_of_ble_eq_true rfl) ?_
 intro c hnt hk
 refine w_seq ?_
 refine w_R ?_
 refine qo hnt rfl (s_alloc tab_27 ?_)
 refine qa hnt rfl rfl ?_
 refine r_set [(0,pS 1 cl_b enc8 b),(2,PV.ptr 0 0)] [(0,.obj [pI 0,pI 0,pI 0,pI 0,pI 0,pNil,pNil,p16 0,p16 0])] 1 ⟨rfl,rfl,trivial⟩ rfl rfl ?_
 refine r_end ?_
 refine q_then ?_
 refine w_seq ?_
 refine w_block ?_
 refine w_seq ?_
 refine w_R ?_
 refine qm hnt rfl rfl ?_
 refine qo hnt rfl (s_lenM (l := b) tab_34 rfl (hM_sl (f := enc8) rfl) ?_)
 refine qo hnt rfl (s_eql rfl rfl ?_)
 refine qa hnt rfl rfl ?_
 refine r_end ?_
 refine q_then ?_
 refine w_if rfl (fun c1 => ?_) (fun c1 => ?_)
 ·
  have c1_ := c1
  try simp only [sB] at c1
  rw [readW_1 (by omega)] at hR
  refine w_seq ?_
  refine w_R ?_
  refine qo hnt rfl (s_build tab_27 rfl rfl (b_nil ?_))
  refine qo hnt rfl (s_store_ptr tab_27 rfl rfl rfl rfl rfl (Nat.le_of_ble_eq_true rfl) ?_)
  refine qa hnt rfl rfl ?_
  refine r_set [(2,PV.ptr 0 0),(3,pI 13)] [(0,.obj [pI 0,pI 0,pI 0,pI 0,pI 0,pNil,pNil,p16 0,p16 0])] 1 ⟨rfl,rfl,trivial⟩ rfl rfl ?_
  refine r_end ?_
  refine q_then ?_
  refine w_leO (n := 0) (ds := [pI R.1.fn,pI R.1.at_,pI R.1.count,pI R.1.wAt,pI R.1.sub,pS 1 false encBo R.1.bits,pS 1 false enc16 R.1.vals,p16 R.1.and_,p16 R.1.or_]) rfl ⟨le_of_eq (congrArg (fun z : Int => pI z) (show 0 = R.1.fn by first|(rw [hR]; done)|(rw [hR]; rfl))),le_of_eq (congrArg (fun z : Int => pI z) (show 0 = R.1.at_ by first|(rw [hR]; done)|(rw [hR]; rfl))),le_of_eq (congrArg (fun z : Int => pI z) (show 0 = R.1.count by first|(rw [hR]; done)|(rw [hR]; rfl))),le_of_eq (congrArg (fun z : Int => pI z) (show 0 = R.1.wAt by first|(rw [hR]; done)|(rw [hR]; rfl))),le_of_eq (congrArg (fun z : Int => pI z) (show 0 = R.1.sub by first|(rw [hR]; done)|(rw [hR]; rfl))),le_tr (le_nilS 1 false) (le_of_eq (congrArg (fun z => pS 1 false encBo z) (show [] = R.1.bits by first|(rw [hR]; done)|(rw [hR]; rfl)))),le_tr (le_nilS 1 false) (le_of_eq (congrArg (fun z => pS 1 false enc16 z) (show [] = R.1.vals by first|(rw [hR]; done)|(rw [hR]; rfl)))),le_of_eq (congrArg (fun z : UInt16 => p16 z) (show 0 = R.1.and_ by first|(rw [hR]; done)|(rw [hR]; rfl))),le_of_eq (congrArg (fun z : UInt16 => p16 z) (show 0 = R.1.or_ by first|(rw [hR]; done)|(rw [hR]; rfl))),trivial⟩ ?_
  refine w_le (s := 3) (y := pI R.2) rfl (le_of_eq (congrArg (fun z : Int => pI z) (show 13 = R.2 by first|(rw [hR]; done)|(rw [hR]; rfl)))) ?_
  refine w_ret ?_
  refine q_block_ret ?_
  refine q_then_ret ?_
  exact fin_plain (ret_cell tab_27 (by decide) rfl rfl (Nat.le_of_ble_eq_true rfl) rfl (ret_tmp rfl ret_nil)) rfl rfl ⟨rfl,rfl,rfl⟩
 ·
  have c1_ := c1
  try simp only [sB] at c1
  refine w_seq ?_
  refine w_R ?_
  refine qm hnt rfl rfl ?_
  obtain ⟨e1,he1⟩ := get_of_lt b (i := 0) (by omega)
  refine qo hnt rfl (s_iaM (q := 0) (b := e1) (f := enc8) tab_34 rfl tab_5 rfl rfl (by omega) rfl he1 ?_)
  refine qo hnt rfl (s_load_ro1 tab_5 rfl rfl rfl rfl ?_)
  have hb0 : b.getD 0 0 = e1 := by rw [List.getD_eq_getElem?_getD,he1]; rfl
  refine qo hnt rfl (s_cvN (a := UInt8.toNat e1) tab_5 tab_3 rfl rfl rfl (by omega) (by have := lt8 e1; omega) ?_)
  refine qo hnt rfl (s_callF rfl rfl rfl (w_pdu_function ((UInt8.toNat e1 : Nat) : Int)) rfl ?_)
  refine qo hnt rfl (s_not rfl ?_)
  refine qa hnt rfl rfl ?_
  refine r_end ?_
  refine q_then ?_
  refine w_if rfl (fun c2 => ?_) (fun c2 => ?_)
  ·
   have c2_ := c2
   try simp only [sB] at c2
   rw [readW_2 (by omega) hb0 (by simpa using c2)] at hR
   refine w_seq ?_
   refine w_R ?_
   refine qo hnt rfl (s_build tab_27 rfl rfl (b_nil ?_))
   refine qo hnt rfl (s_store_ptr tab_27 rfl rfl rfl rfl rfl (Nat.le_of_ble_eq_true rfl) ?_)
   refine qa hnt rfl rfl ?_
   refine r_set [(2,PV.ptr 0 0),(3,pI 15)] [(0,.obj [pI 0,pI 0,pI 0,pI 0,pI 0,pNil,pNil,p16 0,p16 0])] 1 ⟨rfl,rfl,trivial⟩ rfl rfl ?_
   refine r_end ?_
   refine q_then ?_
   refine w_leO (n := 0) (ds := [pI R.1.fn,pI R.1.at_,pI R.1.count,pI R.1.wAt,pI R.1.sub,pS 1 false encBo R.1.bits,pS 1 false enc16 R.1.vals,p16 R.1.and_,p16 R.1.or_]) rfl ⟨le_of_eq (congrArg (fun z : Int => pI z) (show 0 = R.1.fn by first|(rw [hR]; done)|(rw [hR]; rfl))),le_of_eq (congrArg (fun z : Int => pI z) (show 0 = R.1.at_ by first|(rw [hR]; done)|(rw [hR]; rfl))),le_of_eq (congrArg (fun z : Int => pI z) (show 0 = R.1.count by first|(rw [hR]; done)|(rw [hR]; rfl))),le_of_eq (congrArg (fun z : Int => pI z) (show 0 = R.1.wAt by first|(rw [hR]; done)|(rw [hR]; rfl))),le_of_eq (congrArg (fun z : Int => pI z) (show 0 = R.1.sub by first|(rw [hR]; done)|(rw [hR]; rfl))),le_tr (le_nilS 1 false) (le_of_eq (congrArg (fun z => pS 1 false encBo z) (show [] = R.1.bits by first|(rw [hR]; done)|(rw [hR]; rfl)))),le_tr (le_nilS 1 false) (le_of_eq (congrArg (fun z => pS 1 false enc16 z) (show [] = R.1.vals by first|(rw [hR]; done)|(rw [hR]; rfl)))),le_of_eq (congrArg (fun z : UInt16 => p16 z) (show 0 = R.1.and_ by first|(rw [hR]; done)|(rw [hR]; rfl))),le_of_eq (congrArg (fun z : UInt16 => p16 z) (show 0 = R.1.or_ by first|(rw [hR]; done)|(rw [hR]; rfl))),trivial⟩ ?_
   refine w_le (s := 3) (y := pI R.2) rfl (le_of_eq (congrArg (fun z : Int => pI z) (show 15 = R.2 by first|(rw [hR]; done)|(rw [hR]; rfl)))) ?_
   refine w_ret ?_
   refine q_block_ret ?_
   refine q_then_ret ?_
   exact fin_plain (ret_cell tab_27 (by decide) rfl rfl (Nat.le_of_ble_eq_true rfl) rfl (ret_tmp rfl ret_nil)) rfl rfl ⟨rfl,rfl,rfl⟩
  ·
   have c2_ := c2
   try simp only [sB] at c2
   refine w_skip ?_
   refine q_block ?_
   refine q_then ?_
   refine w_seq ?_
   refine w_R ?_
   refine qm hnt rfl rfl ?_
   obtain ⟨G1,hG1⟩ : ∃ z : TRequest,z = guessP b := ⟨_,rfl⟩
   refine qo hnt rfl (s_callF rfl rfl rfl (w_pdu_guess b cl_b G1 hG1 (by first|omega|assumption|(simp; omega)|decide|(simp; done)) (by first|omega|assumption|(simp; omega)|decide|(simp; done))) rfl ?_)
   refine qo hnt rfl (s_alloc tab_27 ?_)
   refine qo hnt rfl (s_store_ptr tab_27 rfl rfl rfl rfl rfl (Nat.le_of_ble_eq_true rfl) ?_)
   refine r_set [(0,pS 1 cl_b enc8 b),(2,PV.ptr 0 0),(4,PV.ptr 1 0)] [(1,.obj [pI G1.fn,pI G1.at_,pI G1.count,pI G1.wAt,pI G1.sub,pS 1 false encBo G1.bits,pS 1 false enc16 G1.vals,p16 G1.and_,p16 G1.or_]),(0,.obj [pI 0,pI 0,pI 0,pI 0,pI 0,pNil,pNil,p16 0,p16 0])] 2 ⟨rfl,rfl,rfl,trivial⟩ rfl rfl ?_
   refine r_end ?_
   refine q_then ?_
   refine w_seq ?_
   refine w_seq ?_
   have hgl := guessP_len b
   rw [← hG1] at hgl
   refine w_R ?_
   refine qo hnt rfl (s_load_ptr tab_27 rfl rfl rfl (Nat.le_of_ble_eq_true rfl) ?_)
   refine qo hnt rfl (s_callF rfl rfl rfl (w_pdu_Bytes G1 (by omega) (by omega)) rfl ?_)
   refine qm hnt rfl rfl ?_
   refine qo hnt rfl (s_extract rfl rfl ?_)
   refine qo hnt rfl (s_extract rfl rfl ?_)
   refine qa hnt rfl rfl ?_
   refine qa hnt rfl rfl ?_
   refine r_end ?_
   refine q_then ?_
   refine w_seq ?_
   refine w_R ?_
   refine qm hnt rfl rfl ?_
   refine qo hnt rfl (s_neq rfl rfl ?_)
   refine qm hnt rfl rfl ?_
   refine r_if tabOk hnt rfl rfl rfl (fun g1 => ?_) (fun g1 => ?_)
   ·
    have g1' := g1
    try simp only [sB] at g1'
    have hg0 : rightR G1 = 0 := by first|exact g1'|simpa using g1
    have hbr := bytesR_yes hg0
    have hsm := writeR_len (rightR_zero hg0).2
    refine qm hnt rfl rfl ?_
    refine ry hnt rfl rfl rfl g1 ?_
    refine qm hnt rfl rfl ?_
    refine ry hnt rfl rfl rfl g1 ?_
    refine qo hnt rfl (s_callF rfl rfl rfl (w_slices_Equal_byte_byte (bytesR G1) false b cl_b (by rw [hbr]; omega)) rfl ?_)
    refine ry hnt rfl rfl rfl g1 ?_
    refine qo hnt rfl (s_not rfl ?_)
    refine qo hnt rfl (s_pick_f rfl g1 rfl ?_)
    refine r_end ?_
    refine q_then ?_
    refine w_if rfl (fun c3 => ?_) (fun c3 => ?_)
    ·
     have c3_ := c3
     try simp only [sB] at c3
     rw [readW_3 (by omega) hb0 (by simpa using c2) hG1 (fun _ => by rw [← hbr]; simpa using c3)] at hR
     refine w_seq ?_
     refine w_R ?_
     refine qo hnt rfl (s_build tab_27 rfl rfl (b_nil ?_))
     refine qo hnt rfl (s_store_ptr tab_27 rfl rfl rfl rfl rfl (Nat.le_of_ble_eq_true rfl) ?_)
     refine qa hnt rfl rfl ?_
     refine r_set [(2,PV.ptr 0 0),(3,pI 12)] [(0,.obj [pI 0,pI 0,pI 0,pI 0,pI 0,pNil,pNil,p16 0,p16 0]),(1,.obj [pI G1.fn,pI G1.at_,pI G1.count,pI G1.wAt,pI G1.sub,pS 1 false encBo G1.bits,pS 1 false enc16 G1.vals,p16 G1.and_,p16 G1.or_])] 2 ⟨rfl,rfl,trivial⟩ rfl rfl ?_
     refine r_end ?_
     refine q_then ?_
     refine w_leO (n := 0) (ds := [pI R.1.fn,pI R.1.at_,pI R.1.count,pI R.1.wAt,pI R.1.sub,pS 1 false encBo R.1.bits,pS 1 false enc16 R.1.vals,p16 R.1.and_,p16 R.1.or_]) rfl ⟨le_of_eq (congrArg (fun z : Int => pI z) (show 0 = R.1.fn by first|(rw [hR]; done)|(rw [hR]; rfl))),le_of_eq (congrArg (fun z : Int => pI z) (show 0 = R.1.at_ by first|(rw [hR]; done)|(rw [hR]; rfl))),le_of_eq (congrArg (fun z : Int => pI z) (show 0 = R.1.count by first|(rw [hR]; done)|(rw [hR]; rfl))),le_of_eq (congrArg (fun z : Int => pI z) (show 0 = R.1.wAt by first|(rw [hR]; done)|(rw [hR]; rfl))),le_of_eq (congrArg (fun z : Int => pI z) (show 0 = R.1.sub by first|(rw [hR]; done)|(rw [hR]; rfl))),le_tr (le_nilS 1 false) (le_of_eq (congrArg (fun z => pS 1 false encBo z) (show [] = R.1.bits by first|(rw [hR]; done)|(rw [hR]; rfl)))),le_tr (le_nilS 1 false) (le_of_eq (congrArg (fun z => pS 1 false enc16 z) (show [] = R.1.vals by first|(rw [hR]; done)|(rw [hR]; rfl)))),le_of_eq (congrArg (fun z : UInt16 => p16 z) (show 0 = R.1.and_ by first|(rw [hR]; done)|(rw [hR]; rfl))),le_of_eq (congrArg (fun z : UInt16 => p16 z) (show 0 = R.1.or_ by first|(rw [hR]; done)|(rw [hR]; rfl))),trivial⟩ ?_
     refine w_le (s := 3) (y := pI R.2) rfl (le_of_eq (congrArg (fun z : Int => pI z) (show 12 = R.2 by first|(rw [hR]; done)|(rw [hR]; rfl)))) ?_
     refine w_ret ?_
     refine q_then_ret ?_
     exact fin_plain (ret_cell tab_27 (by decide) rfl rfl (Nat.le_of_ble_eq_true rfl) rfl (ret_tmp rfl ret_nil)) rfl rfl ⟨rfl,rfl,rfl⟩
    ·
     have c3_ := c3
     try simp only [sB] at c3
     rw [readW_4 (by omega) hb0 (by simpa using c2) hG1 hg0 (by rw [← hbr]; simpa using c3)] at hR
     refine w_skip ?_
     refine q_then ?_
     refine w_seq ?_
     refine w_R ?_
     refine qo hnt rfl (s_load_ptr tab_27 rfl rfl rfl (Nat.le_of_ble_eq_true rfl) ?_)
     refine qo hnt rfl (s_store_ptr tab_27 rfl rfl rfl rfl rfl (Nat.le_of_ble_eq_true rfl) ?_)
     refine qa hnt rfl rfl ?_
     refine r_set [(2,PV.ptr 0 0),(3,pI 0)] [(0,.obj [pI G1.fn,pI G1.at_,pI G1.count,pI G1.wAt,pI G1.sub,pS 1 false encBo G1.bits,pS 1 false enc16 G1.vals,p16 G1.and_,p16 G1.or_]),(1,.obj [pI G1.fn,pI G1.at_,pI G1.count,pI G1.wAt,pI G1.sub,pS 1 false encBo G1.bits,pS 1 false enc16 G1.vals,p16 G1.and_,p16 G1.or_])] 2 ⟨rfl,rfl,trivial⟩ rfl rfl ?_
     refine r_end ?_
     refine q_then ?_
     refine w_leO (n := 0) (ds := [pI R.1.fn,pI R.1.at_,pI R.1.count,pI R.1.wAt,pI R.1.sub,pS 1 false encBo R.1.bits,pS 1 false enc16 R.1.vals,p16 R.1.and_,p16 R.1.or_]) rfl ⟨le_of_eq (congrArg (fun z : Int => pI z) (show G1.fn = R.1.fn by first|(rw [hR]; done)|(rw [hR]; rfl))),le_of_eq (congrArg (fun z : Int => pI z) (show G1.at_ = R.1.at_ by first|(rw [hR]; done)|(rw [hR]; rfl))),le_of_eq (congrArg (fun z : Int => pI z) (show G1.count = R.1.count by first|(rw [hR]; done)|(rw [hR]; rfl))),le_of_eq (congrArg (fun z : Int => pI z) (show G1.wAt = R.1.wAt by first|(rw [hR]; done)|(rw [hR]; rfl))),le_of_eq (congrArg (fun z : Int => pI z) (show G1.sub = R.1.sub by first|(rw [hR]; done)|(rw [hR]; rfl))),le_of_eq (congrArg (fun z => pS 1 false encBo z) (show G1.bits = R.1.bits by first|(rw [hR]; done)|(rw [hR]; rfl))),le_of_eq (congrArg (fun z => pS 1 false enc16 z) (show G1.vals = R.1.vals by first|(rw [hR]; done)|(rw [hR]; rfl))),le_of_eq (congrArg (fun z : UInt16 => p16 z) (show G1.and_ = R.1.and_ by first|(rw [hR]; done)|(rw [hR]; rfl))),le_of_eq (congrArg (fun z : UInt16 => p16 z) (show G1.or_ = R.1.or_ by first|(rw [hR]; done)|(rw [hR]; rfl))),trivial⟩ ?_
     refine w_le (s := 3) (y := pI R.2) rfl (le_of_eq (congrArg (fun z : Int => pI z) (show 0 = R.2 by first|(rw [hR]; done)|(rw [hR]; rfl)))) ?_
     refine w_ret ?_
     exact fin_plain (ret_cell tab_27 (by decide) rfl rfl (Nat.le_of_ble_eq_true rfl) rfl (ret_tmp rfl ret_nil)) rfl rfl ⟨rfl,rfl,rfl⟩
   ·
    have g1' := g1
    try simp only [sB] at g1'
    have hg9 : ¬ rightR G1 = 0 := by first|exact g1'|simpa using g1
    rw [readW_3 (by omega) hb0 (by simpa using c2) hG1 (fun h => absurd h hg9)] at hR
    refine rn hnt rfl rfl rfl g1 ?_
    refine rn hnt rfl rfl rfl g1 ?_
    refine rn hnt rfl rfl rfl g1 ?_
    refine qo hnt rfl (s_pick_t rfl g1 rfl ?_)
    refine r_end ?_
    refine q_then ?_
    refine w_if rfl (fun _ => ?_) (fun e => absurd e (by decide))
    refine w_seq ?_
    refine w_R ?_
    refine qo hnt rfl (s_build tab_27 rfl rfl (b_nil ?_))
    refine qo hnt rfl (s_store_ptr tab_27 rfl rfl rfl rfl rfl (Nat.le_of_ble_eq_true rfl) ?_)
    refine qa hnt rfl rfl ?_
    refine r_set [(2,PV.ptr 0 0),(3,pI 12)] [(0,.obj [pI 0,pI 0,pI 0,pI 0,pI 0,pNil,pNil,p16 0,p16 0]),(1,.obj [pI G1.fn,pI G1.at_,pI G1.count,pI G1.wAt,pI G1.sub,pS 1 false encBo G1.bits,pS 1 false enc16 G1.vals,p16 G1.and_,p16 G1.or_])] 2 ⟨rfl,rfl,trivial⟩ rfl rfl ?_
    refine r_end ?_
    refine q_then ?_
    refine w_leO (n := 0) (ds := [pI R.1.fn,pI R.1.at_,pI R.1.count,pI R.1.wAt,pI R.1.sub,pS 1 false encBo R.1.bits,pS 1 false enc16 R.1.vals,p16 R.1.and_,p16 R.1.or_]) rfl ⟨le_of_eq (congrArg (fun z : Int => pI z) (show 0 = R.1.fn by first|(rw [hR]; done)|(rw [hR]; rfl))),le_of_eq (congrArg (fun z : Int => pI z) (show 0 = R.1.at_ by first|(rw [hR]; done)|(rw [hR]; rfl))),le_of_eq (congrArg (fun z : Int => pI z) (show 0 = R.1.count by first|(rw [hR]; done)|(rw [hR]; rfl))),le_of_eq (congrArg (fun z : Int => pI z) (show 0 = R.1.wAt by first|(rw [hR]; done)|(rw [hR]; rfl))),le_of_eq (congrArg (fun z : Int => pI z) (show 0 = R.1.sub by first|(rw [hR]; done)|(rw [hR]; rfl))),le_tr (le_nilS 1 false) (le_of_eq (congrArg (fun z => pS 1 false encBo z) (show [] = R.1.bits by first|(rw [hR]; done)|(rw [hR]; rfl)))),le_tr (le_nilS 1 false) (le_of_eq (congrArg (fun z => pS 1 false enc16 z) (show [] = R.1.vals by first|(rw [hR]; done)|(rw [hR]; rfl)))),le_of_eq (congrArg (fun z : UInt16 => p16 z) (show 0 = R.1.and_ by first|(rw [hR]; done)|(rw [hR]; rfl))),le_of_eq (congrArg (fun z : UInt16 => p16 z) (show 0 = R.1.or_ by first|(rw [hR]; done)|(rw [hR]; rfl))),trivial⟩ ?_
    refine w_le (s := 3) (y := pI R.2) rfl (le_of_eq (congrArg (fun z : Int => pI z) (show 12 = R.2 by first|(rw [hR]; done)|(rw [hR]; rfl)))) ?_
    refine w_ret ?_
    refine q_then_ret ?_
    exact fin_plain (ret_cell tab_27 (by decide) rfl rfl (Nat.le_of_ble_eq_true rfl) rfl (ret_tmp rfl ret_nil)) rfl rfl ⟨rfl,rfl,rfl⟩
end Go.Proofs.Ytigpfkcjpjhflaa
