/- What the law PartWithin needs, and no more: merged out of texts of this session by a program of it (wip/tools/prune.py). -/
import Derived.Test.YtlcmbkkimgdnmaaQPartWithin3
set_option linter.unusedVariables false
set_option linter.unusedSimpArgs false
set_option maxRecDepth 10000
set_option maxHeartbeats 1000000
namespace Go.Proofs.Ytlcmbkkimgdnmaa
open Go Go.Proofs.Ytlcmbkkimgdnmaa.Pv
theorem w_burgagelaw14_PartWithin (t : List Int) (cl_t : Bool) (u : List Int) (cl_u : Bool) (i0 : Int) (ht : t.length ≤ 70000000000000) (hu : u.length ≤ 70000000000000) :
    T Try.prog 5 [pS 1 cl_t encI t,pS 1 cl_u encI u,pI i0] 0 [] (Ret (pB true) 0 []) := by
 refine t_fun tabOk (n := 226) (rs := [.tmp 6]) Try.func5 rfl rfl rfl rfl (Nat.le_of_ble_eq_true rfl) ?_
 intro c hnt hk
 refine w_seq (w_R (qa hnt rfl rfl (r_end (q_then (w_seq ?_)))))
 refine w_R (qm hnt rfl rfl (qm hnt rfl rfl ?_))
 obtain ⟨mk1,hmk1⟩ : ∃ z : Nat,z = (i0 % 2 ^ 2).toNat := ⟨_,rfl⟩
 have lmk1 : mk1 < 4 := by omega
 refine qo hnt rfl (s_maskZ 2 (by decide) hmk1 rfl rfl (by decide) ?_)
 refine qo hnt rfl (s_callX1 (p := fun (p1 : TTenant) => WinsOk p1.windows) (r2 := fun p1 => PV.f (eTenant p1)) (nx1 := 0) (H2 := []) (H3 := fun p1 => []) [] [] rfl rfl rfl (handed_of (by decide) trivial) rfl rfl rfl rfl rfl rfl (w_burgagelaw14_tenant t cl_t mk1 (by omega) (by omega)) (fun p1 => rfl) (fun p1 => dist_of rfl) (fun p1 => rfl) (fun p1 => rfl) rfl (fun p1 => rfl) (fun p1 hp1 => ?_))
 refine qo hnt rfl (s_alloc tab_26 ?_)
 refine qo hnt rfl (s_store_ptr tab_26 rfl rfl rfl rfl rfl (Nat.le_of_ble_eq_true rfl) ?_)
 refine r_set [(1,pS 1 cl_u encI u),(7,PV.ptr 0 0)] [(0,.obj (cTenant p1))] 1 ⟨rfl,rfl,trivial⟩ rfl rfl (r_end (q_then (w_seq ?_)))
 have hl1 := hp1.len
 refine w_R (qo hnt rfl (s_fa_ptr tab_26 rfl rfl tab_22 (by decide) rfl ?_))
 refine qo hnt rfl (s_store_ptr tab_22 rfl rfl rfl rfl rfl (Nat.le_of_ble_eq_true rfl) ?_)
 refine r_set [(1,pS 1 cl_u encI u),(7,PV.ptr 0 0)] [(0,.obj [pI p1.unit,pK .u32 16777215,pI p1.queue,pS 4 false eWindow p1.windows,pS 2 false eSlot p1.slots])] 1 ⟨rfl,rfl,trivial⟩ rfl rfl (r_end (q_then (w_seq (w_R (qm hnt rfl rfl ?_)))))
 refine qo hnt rfl (s_build tab_32 rfl rfl (b_cons rfl tab_28 rfl rfl rfl (Nat.le_of_ble_eq_true rfl) (b_nil ?_)))
 refine qo hnt rfl (s_box rfl rfl ?_)
 refine qo hnt rfl (s_callX2 (p := fun (q1 : TRequest) (b1 : Nat) => rightR q1 = 0 ∧ q1.bits.length ≤ 25 ∧ q1.vals.length ≤ 25 ∧ 0 ≤ q1.count ∧ q1.count ≤ 25) (r2 := fun q1 b1 => PV.f (eRequest q1)) (nx1 := 2) (H2 := [(1,.obj [pS 1 cl_u encI u,pI 0]),(0,.obj [pI p1.unit,pK .u32 16777215,pI p1.queue,pS 4 false eWindow p1.windows,pS 2 false eSlot p1.slots])]) (H3 := fun q1 b1 => [(1,.obj [pS 1 false encI u,pN b1]),(0,.obj [pI p1.unit,pK .u32 16777215,pI p1.queue,pS 4 false eWindow p1.windows,pS 2 false eSlot p1.slots])]) [1] [.obj [pS 1 cl_u encI u,pI 0]] rfl rfl rfl (handed_of (by decide) ⟨rfl,trivial⟩) rfl rfl rfl rfl rfl rfl (w_burgagekeep_Tape_Request u cl_u 0 (by omega)) (fun q1 b1 => rfl) (fun q1 b1 => dist_of rfl) (fun q1 b1 => rfl) (fun q1 b1 => rfl) rfl (fun q1 b1 => rfl) (fun q1 b1 hq1 => ?_))
 refine qo hnt rfl (s_alloc tab_37 ?_)
 refine qo hnt rfl (s_store_ptr tab_37 rfl rfl rfl rfl rfl (Nat.le_of_ble_eq_true rfl) ?_)
 refine r_set [(7,PV.ptr 0 0),(8,PV.ptr 2 0)] [(2,.obj (cRequest q1)),(1,.obj [pS 1 false encI u,pN b1]),(0,.obj [pI p1.unit,pK .u32 16777215,pI p1.queue,pS 4 false eWindow p1.windows,pS 2 false eSlot p1.slots])] 3 ⟨rfl,rfl,trivial⟩ rfl rfl (r_end (q_then (w_seq ?_)))
 obtain ⟨hr1,hqb1,hqv1,hqc1,hqd1⟩ := hq1
 refine w_R (qo hnt rfl (s_load_ptr tab_26 rfl rfl rfl (Nat.le_of_ble_eq_true rfl) ?_))
 refine qo hnt rfl (s_load_ptr tab_37 rfl rfl rfl (Nat.le_of_ble_eq_true rfl) ?_)
 obtain ⟨S1,hS1⟩ : ∃ z : List TPart × Int,z = splitP (⟨p1.unit,16777215,p1.queue,p1.windows,p1.slots⟩ : TTenant).functions (⟨p1.unit,16777215,p1.queue,p1.windows,p1.slots⟩ : TTenant).windows q1 := ⟨_,rfl⟩
 refine qo hnt rfl (s_callF rfl rfl rfl (w_part_Split (⟨p1.unit,16777215,p1.queue,p1.windows,p1.slots⟩ : TTenant) q1 S1 hS1 (by (simp only [List.length_take]; omega)) (by omega) (by omega)) rfl ?_)
 refine qm hnt rfl rfl (qo hnt rfl (s_extract rfl rfl ?_))
 refine qo hnt rfl (s_extract rfl rfl ?_)
 refine qa hnt rfl rfl (qa hnt rfl rfl (r_end (q_then (w_seq (w_seq ?_)))))
 have hS9 : S1 = splitP 16777215 p1.windows q1 := hS1
 have hs6 := (split_len 16777215 p1.windows q1).1
 rw [← hS9] at hs6
 have hz9 : S1.2 = 0 ∨ S1.1 = [] := by by_cases h9 : codeP 16777215 p1.windows q1 = 0; exact .inl (by rw [hS9,split_code,h9]); exact .inr (by rw [hS9,split_nil h9])
 refine w_R (qm hnt rfl rfl (qo hnt rfl (s_load_ptr tab_26 rfl rfl rfl (Nat.le_of_ble_eq_true rfl) ?_)))
 refine qo hnt rfl (s_load_ptr tab_37 rfl rfl rfl (Nat.le_of_ble_eq_true rfl) ?_)
 refine qo hnt rfl (s_callF rfl rfl rfl (w_part_Code (⟨p1.unit,16777215,p1.queue,p1.windows,p1.slots⟩ : TTenant) q1 (by (simp only [List.length_take]; omega)) (by omega) (by omega)) rfl ?_)
 refine qo hnt rfl (s_neq rfl rfl ?_)
 refine qm hnt rfl rfl (r_if tabOk hnt rfl rfl rfl (fun g1 => ?_) (fun g1 => ?_))
 ·have g1' := g1
  try simp only [sB] at g1'
  refine qm hnt rfl rfl (ry hnt rfl rfl rfl g1 (qo hnt rfl (s_neq rfl rfl ?_)))
  refine ry hnt rfl rfl rfl g1 (qm hnt rfl rfl (r_cut0 4 [(7,PV.ptr 0 0),(8,PV.ptr 2 0),(9,pS 10 false ePart S1.1),(10,pI S1.2),(41,pB (!decide (S1.2 = codeP (⟨p1.unit,16777215,p1.queue,p1.windows,p1.slots⟩ : TTenant).functions (⟨p1.unit,16777215,p1.queue,p1.windows,p1.slots⟩ : TTenant).windows q1))),(48,pB ((!decide (S1.2 = 0)) && (decide (0 < ((S1.1.length : Nat) : Int)))))] ?_ ?_))
  ·refine r_if tabOk hnt rfl rfl rfl (fun g2 => ?_) (fun g2 => ?_)
   ·have g2' := g2
    try simp only [sB] at g2'
    refine qm hnt rfl rfl (ry hnt rfl rfl rfl g2 (qo hnt rfl (s_lenM (l := S1.1) tab_45 rfl (hM_sl (f := ePart) rfl) ?_)))
    refine ry hnt rfl rfl rfl g2 (qo hnt rfl (s_gtr rfl rfl ?_))
    refine ry hnt rfl rfl rfl g1 (qo hnt rfl (s_pick_t rfl g2 rfl ?_))
    refine r_eq (s := 48) (y := pB ((!decide (S1.2 = 0)) && (decide (0 < ((S1.1.length : Nat) : Int))))) rfl (mix_at g2) ?_
    exact r_mid ⟨⟨rfl,rfl,rfl,rfl,rfl,rfl,trivial⟩,rfl,rfl⟩
   ·have g2' := g2
    try simp only [sB] at g2'
    refine rn hnt rfl rfl rfl g2 (rn hnt rfl rfl rfl g2 (ry hnt rfl rfl rfl g1 (qo hnt rfl (s_pick_f rfl g2 rfl ?_))))
    refine r_eq (s := 48) (y := pB ((!decide (S1.2 = 0)) && (decide (0 < ((S1.1.length : Nat) : Int))))) rfl (mix_af _ g2) ?_
    exact r_mid ⟨⟨rfl,rfl,rfl,rfl,rfl,rfl,trivial⟩,rfl,rfl⟩
  ·refine qo hnt rfl (s_pick_f rfl g1 rfl ?_)
   refine qm hnt rfl rfl (r_if tabOk hnt rfl rfl rfl (fun g3 => ?_) (fun g3 => ?_))
   ·have g3' := g3
    try simp only [sB] at g3'
    refine qm hnt rfl rfl (ry hnt rfl rfl rfl g3 (qo hnt rfl (s_lenM (l := S1.1) tab_45 rfl (hM_sl (f := ePart) rfl) ?_)))
    refine ry hnt rfl rfl rfl g3 (qo hnt rfl (s_gtr rfl rfl ?_))
    refine qo hnt rfl (s_pick_f rfl g3 rfl ?_)
    refine r_end (q_then (w_if rfl (fun c1 => ?_) (fun c1 => ?_)))
    ·have c1_ := c1
     exact absurd c1 (by simp; omega)
    have c1_ := c1
    try simp only [sB] at c1
    refine w_skip (q_then (w_seq (w_R (qa hnt rfl rfl (qa hnt rfl rfl ?_)))))
    refine r_end (q_then (w_seq (w_seq (w_R (qm hnt rfl rfl ?_)))))
    refine qo hnt rfl (s_lenM (l := S1.1) tab_45 rfl (hM_sl (f := ePart) rfl) ?_)
    refine qm hnt rfl rfl (r_end (q_then (w_block (loop3 (fun (rd : Int) (wr : Int) (i : Nat) => i ≤ S1.1.length ∧ rd = rdS (S1.1.take i) ∧ wr = wrS (S1.1.take i) ∧ 0 ≤ rd ∧ rd ≤ 65536 * (i : Int) ∧ 0 ≤ wr ∧ wr ≤ 65536 * (i : Int)) (fun (rd : Int) (wr : Int) (i : Nat) => [(7,PV.ptr 0 0),(8,PV.ptr 1 0),(10,pI S1.2),(11,pI rd),(12,pI wr),(55,pS 10 false ePart S1.1),(56,pN S1.1.length),(57,pN i)]) 2 (fun (rd : Int) (wr : Int) (i : Nat) => [(0,.obj [pI p1.unit,pK .u32 16777215,pI p1.queue,pS 4 false eWindow p1.windows,pS 2 false eSlot p1.slots]),(1,.obj (cRequest q1))]) (fun (rd : Int) (wr : Int) (i : Nat) => S1.1.length - i) (0) (0) (0) ?_ ⟨[(0,0),(1,2)],by rw [hk]; decide,⟨⟨_,rfl,rfl,rfl⟩,⟨_,rfl,rfl,rfl⟩,⟨_,rfl,rfl,rfl⟩,⟨_,rfl,rfl,rfl⟩,⟨_,rfl,rfl,rfl⟩,⟨_,rfl,rfl,rfl⟩,⟨_,rfl,rfl,rfl⟩,⟨_,rfl,rfl,rfl⟩,trivial⟩,⟨⟨_,_,rfl,rfl,rfl,rfl⟩,⟨_,_,rfl,rfl,rfl,rfl⟩,trivial⟩,by rw [hk]; decide⟩ ?_))))
    · exact ⟨by omega,by simp [rdS],by simp [wrS],by omega,by omega,by omega,by omega⟩
    ·intro rd wr i hI
     obtain ⟨hi,hrd,hwr,hrd1,hrd2,hwr1,hwr2⟩ := hI
     refine w_seq (w_R (qo hnt rfl (s_lss rfl rfl ?_)))
     refine r_end (q_then (w_seq (w_if rfl (fun c2 => ?_) (fun c2 => ?_))))
     ·have c2_ := c2
      try simp only [sB] at c2
      refine w_skip (q_then (w_seq (w_block (w_seq (w_R ?_)))))
      obtain ⟨e1,he1⟩ := get_of_lt S1.1 (i := i) (by omega)
      refine qo hnt rfl (s_iaM (q := i) (b := e1) (f := ePart) tab_45 rfl tab_50 rfl rfl (by omega) rfl he1 ?_)
      refine qo hnt rfl (s_load_ro tab_50 rfl rfl rfl ?_)
      refine qo hnt rfl (s_alloc tab_50 ?_)
      refine qo hnt rfl (s_store_ptr tab_50 rfl rfl rfl rfl rfl (Nat.le_of_ble_eq_true rfl) ?_)
      refine r_set [(7,PV.ptr 0 0),(8,PV.ptr 1 0),(10,pI S1.2),(11,pI rd),(12,pI wr),(14,PV.ptr 2 0),(55,pS 10 false ePart S1.1),(56,pN S1.1.length),(57,pN i)] [(2,.obj (cPart e1)),(0,.obj [pI p1.unit,pK .u32 16777215,pI p1.queue,pS 4 false eWindow p1.windows,pS 2 false eSlot p1.slots]),(1,.obj (cRequest q1))] 3 ⟨rfl,rfl,rfl,rfl,rfl,rfl,rfl,rfl,rfl,trivial⟩ rfl rfl (r_end (q_then (w_seq ?_)))
      obtain ⟨hpf,hpc1,hpc2,hpa1,hpa2,j0,w0,hw0,hws,hwp,hwe⟩ := part_in (F := 16777215) (l := p1.windows) (q := q1) (x := e1) (by rw [← hS9]; exact List.mem_of_getElem? he1)
      obtain ⟨nn,hnn⟩ : ∃ z : Nat,(z : Int) = max e1.request.count 1 := ⟨(max e1.request.count 1).toNat,by omega⟩
      rw [← hnn] at hwe
      have hn2 : 1 ≤ nn ∧ nn ≤ 65536 := by omega
      have hj0 := (List.getElem?_eq_some_iff.1 hw0).1
      refine w_R (qo hnt rfl (s_fa_ptr tab_50 rfl rfl tab_37 (by decide) rfl ?_))
      refine qo hnt rfl (s_fa_ptr tab_37 rfl rfl tab_3 (by decide) rfl ?_)
      refine qo hnt rfl (s_load_ptr1 tab_3 rfl rfl rfl rfl rfl ?_)
      refine qo hnt rfl (s_maxI rfl ?_)
      refine qa hnt rfl rfl (r_end (q_then (w_seq ?_)))
      have h77 : ([0,0,1,3,2,0,3] : List Int).length = 7 := rfl
      refine w_eq (s := 15) (y := pN nn) rfl (congrArg pI (show (max e1.request.count 1) = ((nn : Nat) : Int) by exact hnn.symm)) (w_R (qo hnt rfl (s_mkM (f := encI) ([0,0,1,3,2,0,3] : List Int) tab_28 rfl tab_3 ⟨rfl,by decide⟩ (by decide) rfl rfl rfl rfl ?_)))
      refine qo hnt rfl (s_fa_ptr tab_50 rfl rfl tab_37 (by decide) rfl ?_)
      refine qo hnt rfl (s_fa_ptr tab_37 rfl rfl tab_3 (by decide) rfl ?_)
      refine qo hnt rfl (s_load_ptr1 tab_3 rfl rfl rfl rfl rfl ?_)
      obtain ⟨fk,hfk⟩ : ∃ z : Nat,e1.request.fn = (z : Int) := ⟨e1.request.fn.toNat,by omega⟩
      refine r_eq (s := 68) (y := pN fk) rfl (congrArg pI (show e1.request.fn = ((fk : Nat) : Int) by exact hfk)) (qo hnt rfl (s_remN (a := fk) (b := 15) rfl rfl (by omega) (by omega) (by omega) ?_))
      refine qo hnt rfl (s_remN (a := fk % 15) (b := 7) rfl rfl (by omega) (by omega) (by omega) ?_)
      refine qo hnt rfl (s_iaR0 (q := (fk % 15) % 7) (f := encI) (l := ([0,0,1,3,2,0,3] : List Int)) tab_28 rfl tab_3 rfl rfl (by omega) rfl rfl (by omega) ?_)
      obtain ⟨e2,he2⟩ := get_of_lt ([0,0,1,3,2,0,3] : List Int) (i := (fk % 15) % 7) (by omega)
      refine qo hnt rfl (s_ldM (b := e2) (f := encI) tab_3 rfl rfl rfl rfl he2 rfl ?_)
      refine qa hnt rfl rfl (r_set [(7,PV.ptr 0 0),(8,PV.ptr 1 0),(10,pI S1.2),(11,pI rd),(12,pI wr),(14,PV.ptr 2 0),(15,pN nn),(16,pI e2),(55,pS 10 false ePart S1.1),(56,pN S1.1.length),(57,pN i)] [(3,oB true 1 encI ([0,0,1,3,2,0,3] : List Int)),(2,.obj (cPart e1)),(0,.obj [pI p1.unit,pK .u32 16777215,pI p1.queue,pS 4 false eWindow p1.windows,pS 2 false eSlot p1.slots]),(1,.obj (cRequest q1))] 4 ⟨rfl,rfl,rfl,rfl,rfl,rfl,rfl,rfl,rfl,rfl,rfl,trivial⟩ rfl rfl (r_end (q_then (w_seq (w_seq ?_)))))
      refine w_R (qo hnt rfl (s_fa_ptr tab_50 rfl rfl tab_37 (by decide) rfl ?_))
      refine qo hnt rfl (s_fa_ptr tab_37 rfl rfl tab_3 (by decide) rfl ?_)
      refine qo hnt rfl (s_load_ptr1 tab_3 rfl rfl rfl rfl rfl ?_)
      refine qo hnt rfl (s_gtr rfl rfl ?_)
      refine qm hnt rfl rfl (r_cut0 5 [(7,PV.ptr 0 0),(8,PV.ptr 1 0),(10,pI S1.2),(11,pI rd),(12,pI wr),(14,PV.ptr 2 0),(15,pN nn),(16,pI e2),(55,pS 10 false ePart S1.1),(56,pN S1.1.length),(57,pN i),(82,pB ((decide (6 < e1.request.fn)) && (!decide (e1.request.fn = 15))))] ?_ ?_)
      ·refine r_if tabOk hnt rfl rfl rfl (fun g4 => ?_) (fun g4 => ?_)
       ·have g4' := g4
        try simp only [sB] at g4'
        refine qo hnt rfl (s_fa_ptr tab_50 rfl rfl tab_37 (by decide) rfl ?_)
        refine ry hnt rfl rfl rfl g4 (qo hnt rfl (s_fa_ptr tab_37 rfl rfl tab_3 (by decide) rfl ?_))
        refine ry hnt rfl rfl rfl g4 (qo hnt rfl (s_load_ptr1 tab_3 rfl rfl rfl rfl rfl ?_))
        refine ry hnt rfl rfl rfl g4 (qo hnt rfl (s_neq rfl rfl ?_))
        refine qo hnt rfl (s_pick_t rfl g4 rfl ?_)
        refine r_eq (s := 82) (y := pB ((decide (6 < e1.request.fn)) && (!decide (e1.request.fn = 15)))) rfl (mix_at g4) ?_
        exact r_mid ⟨⟨rfl,rfl,rfl,rfl,rfl,rfl,rfl,rfl,rfl,rfl,rfl,rfl,trivial⟩,rfl,rfl⟩
       ·have g4' := g4
        try simp only [sB] at g4'
        refine rn hnt rfl rfl rfl g4 (rn hnt rfl rfl rfl g4 (rn hnt rfl rfl rfl g4 (qo hnt rfl (s_pick_f rfl g4 rfl ?_))))
        refine r_eq (s := 82) (y := pB ((decide (6 < e1.request.fn)) && (!decide (e1.request.fn = 15)))) rfl (mix_af _ g4) ?_
        exact r_mid ⟨⟨rfl,rfl,rfl,rfl,rfl,rfl,rfl,rfl,rfl,rfl,rfl,rfl,trivial⟩,rfl,rfl⟩
      ·refine qm hnt rfl rfl (r_cut0 5 [(7,PV.ptr 0 0),(8,PV.ptr 1 0),(10,pI S1.2),(11,pI rd),(12,pI wr),(14,PV.ptr 2 0),(15,pN nn),(16,pI e2),(55,pS 10 false ePart S1.1),(56,pN S1.1.length),(57,pN i),(88,pB (((decide (6 < e1.request.fn)) && (!decide (e1.request.fn = 15))) && (!decide (e1.request.fn = 16))))] ?_ ?_)
       ·refine r_if tabOk hnt rfl rfl rfl (fun g5 => ?_) (fun g5 => ?_)
        ·have g5' := g5
         try simp only [sB] at g5'
         refine qo hnt rfl (s_fa_ptr tab_50 rfl rfl tab_37 (by decide) rfl ?_)
         refine ry hnt rfl rfl rfl g5 (qo hnt rfl (s_fa_ptr tab_37 rfl rfl tab_3 (by decide) rfl ?_))
         refine ry hnt rfl rfl rfl g5 (qo hnt rfl (s_load_ptr1 tab_3 rfl rfl rfl rfl rfl ?_))
         refine ry hnt rfl rfl rfl g5 (qo hnt rfl (s_neq rfl rfl ?_))
         refine qo hnt rfl (s_pick_t rfl g5 rfl ?_)
         refine r_eq (s := 88) (y := pB (((decide (6 < e1.request.fn)) && (!decide (e1.request.fn = 15))) && (!decide (e1.request.fn = 16)))) rfl (mix_at g5) ?_
         exact r_mid ⟨⟨rfl,rfl,rfl,rfl,rfl,rfl,rfl,rfl,rfl,rfl,rfl,rfl,trivial⟩,rfl,rfl⟩
        ·have g5' := g5
         try simp only [sB] at g5'
         refine rn hnt rfl rfl rfl g5 (rn hnt rfl rfl rfl g5 (rn hnt rfl rfl rfl g5 (qo hnt rfl (s_pick_f rfl g5 rfl ?_))))
         refine r_eq (s := 88) (y := pB (((decide (6 < e1.request.fn)) && (!decide (e1.request.fn = 15))) && (!decide (e1.request.fn = 16)))) rfl (mix_af _ g5) ?_
         exact r_mid ⟨⟨rfl,rfl,rfl,rfl,rfl,rfl,rfl,rfl,rfl,rfl,rfl,rfl,trivial⟩,rfl,rfl⟩
       ·refine r_end (q_then (w_if rfl (fun c3 => ?_) (fun c3 => ?_)))
        ·have c3_ := c3
         exact absurd c3 (by simp; omega)
        have c3_ := c3
        try simp only [sB] at c3
        refine w_skip (q_then (w_seq (w_seq (w_R (qo hnt rfl (s_fa_ptr tab_50 rfl rfl tab_37 (by decide) rfl ?_))))))
        refine qo hnt rfl (s_fa_ptr tab_37 rfl rfl tab_3 (by decide) rfl ?_)
        refine qo hnt rfl (s_load_ptr1 tab_3 rfl rfl rfl rfl rfl ?_)
        refine qo hnt rfl (s_eql rfl rfl ?_)
        refine r_end (q_then (w_if rfl (fun c4 => ?_) (fun c4 => ?_)))
        ·have c4_ := c4
         try simp only [sB] at c4
         refine w_R (qa hnt rfl rfl (r_end (q_then (join1 (fun (sv : Int) => sv = spP e1.request.fn) (fun (sv : Int) => [(7,PV.ptr 0 0),(8,PV.ptr 1 0),(10,pI S1.2),(11,pI rd),(12,pI wr),(14,PV.ptr 2 0),(15,pN nn),(16,pI sv),(55,pS 10 false ePart S1.1),(56,pN S1.1.length),(57,pN i)]) 3 (fun (sv : Int) => [(0,.obj [pI p1.unit,pK .u32 16777215,pI p1.queue,pS 4 false eWindow p1.windows,pS 2 false eSlot p1.slots]),(1,.obj (cRequest q1)),(2,.obj (cPart e1))]) ?_ ?_))))
         ·refine w_seq (w_R (qo hnt rfl (s_fa_ptr tab_50 rfl rfl tab_37 (by decide) rfl ?_)))
          refine qo hnt rfl (s_fa_ptr tab_37 rfl rfl tab_3 (by decide) rfl ?_)
          refine qo hnt rfl (s_load_ptr1 tab_3 rfl rfl rfl rfl rfl ?_)
          refine qo hnt rfl (s_eql rfl rfl ?_)
          refine r_end (q_then (w_if rfl (fun c5 => ?_) (fun c5 => ?_)))
          ·have c5_ := c5
           try simp only [sB] at c5
           refine w_R (qa hnt rfl rfl (r_end (q_then (⟨(3), ?_,⟨[(0,0),(1,1),(2,2)],by rw [hk]; decide,⟨⟨_,rfl,rfl,rfl⟩,⟨_,rfl,rfl,rfl⟩,⟨_,rfl,rfl,rfl⟩,⟨_,rfl,rfl,rfl⟩,⟨_,rfl,rfl,rfl⟩,⟨_,rfl,rfl,rfl⟩,⟨_,rfl,rfl,rfl⟩,⟨_,rfl,rfl,rfl⟩,⟨_,rfl,rfl,rfl⟩,⟨_,rfl,rfl,rfl⟩,⟨_,rfl,rfl,rfl⟩,trivial⟩,⟨⟨_,_,rfl,rfl,rfl,rfl⟩,⟨_,_,rfl,rfl,rfl,rfl⟩,⟨_,_,rfl,rfl,rfl,rfl⟩,trivial⟩,by rw [hk]; decide⟩⟩))))
           exact (spP_3 (by omega)).symm
          have c5_ := c5
          try simp only [sB] at c5
          refine w_skip (q_then (⟨(0), ?_,⟨[(0,0),(1,1),(2,2)],by rw [hk]; decide,⟨⟨_,rfl,rfl,rfl⟩,⟨_,rfl,rfl,rfl⟩,⟨_,rfl,rfl,rfl⟩,⟨_,rfl,rfl,rfl⟩,⟨_,rfl,rfl,rfl⟩,⟨_,rfl,rfl,rfl⟩,⟨_,rfl,rfl,rfl⟩,⟨_,rfl,rfl,rfl⟩,⟨_,rfl,rfl,rfl⟩,⟨_,rfl,rfl,rfl⟩,⟨_,rfl,rfl,rfl⟩,trivial⟩,⟨⟨_,_,rfl,rfl,rfl,rfl⟩,⟨_,_,rfl,rfl,rfl,rfl⟩,⟨_,_,rfl,rfl,rfl,rfl⟩,trivial⟩,by rw [hk]; decide⟩⟩))
          exact (spP_0 (by omega)).symm
         intro sv hsv
         refine w_seq (w_seq (w_R (qa hnt rfl rfl (r_end (q_then ?_)))))
         refine w_block (loop1 (fun (k : Nat) => k ≤ nn) (fun (k : Nat) => [(7,PV.ptr 0 0),(8,PV.ptr 1 0),(10,pI S1.2),(11,pI rd),(12,pI wr),(14,PV.ptr 2 0),(15,pN nn),(16,pI sv),(17,pN k),(55,pS 10 false ePart S1.1),(56,pN S1.1.length),(57,pN i)]) 3 (fun (k : Nat) => [(0,.obj [pI p1.unit,pK .u32 16777215,pI p1.queue,pS 4 false eWindow p1.windows,pS 2 false eSlot p1.slots]),(1,.obj (cRequest q1)),(2,.obj (cPart e1))]) (fun (k : Nat) => nn - k) (0) ?_ ⟨[(0,0),(1,1),(2,2)],by rw [hk]; decide,⟨⟨_,rfl,rfl,rfl⟩,⟨_,rfl,rfl,rfl⟩,⟨_,rfl,rfl,rfl⟩,⟨_,rfl,rfl,rfl⟩,⟨_,rfl,rfl,rfl⟩,⟨_,rfl,rfl,rfl⟩,⟨_,rfl,rfl,rfl⟩,⟨_,rfl,rfl,rfl⟩,⟨_,rfl,rfl,rfl⟩,⟨_,rfl,rfl,rfl⟩,⟨_,rfl,rfl,rfl⟩,⟨_,rfl,rfl,rfl⟩,trivial⟩,⟨⟨_,_,rfl,rfl,rfl,rfl⟩,⟨_,_,rfl,rfl,rfl,rfl⟩,⟨_,_,rfl,rfl,rfl,rfl⟩,trivial⟩,by rw [hk]; decide⟩ ?_)
         · omega
         ·intro k hK
          refine w_seq (w_seq (w_R (qm hnt rfl rfl (qm hnt rfl rfl (qo hnt rfl (s_lss rfl rfl ?_))))))
          refine r_end (q_then (w_if rfl (fun c6 => ?_) (fun c6 => ?_)))
          ·have c6_ := c6
           try simp only [sB] at c6
           refine w_skip (q_then (w_seq (w_block (w_seq (w_R ?_)))))
           refine qa hnt rfl rfl (r_end (q_then (w_seq (w_seq (w_R ?_)))))
           refine qo hnt rfl (s_fa_ptr tab_26 rfl rfl tab_23 (by decide) rfl ?_)
           refine qo hnt rfl (s_load_ptr1 tab_23 rfl rfl rfl rfl rfl ?_)
           refine qo hnt rfl (s_lenM (l := p1.windows) tab_23 rfl (hM_sl (f := eWindow) rfl) ?_)
           refine qm hnt rfl rfl (r_end (q_then (w_block (loop2 (fun (inn : Bool) (j : Nat) => j ≤ p1.windows.length ∧ (j0 < j → inn = true)) (fun (inn : Bool) (j : Nat) => [(7,PV.ptr 0 0),(8,PV.ptr 1 0),(10,pI S1.2),(11,pI rd),(12,pI wr),(14,PV.ptr 2 0),(15,pN nn),(16,pI sv),(17,pN k),(18,pB inn),(55,pS 10 false ePart S1.1),(56,pN S1.1.length),(57,pN i),(103,pS 4 false eWindow p1.windows),(104,pN p1.windows.length),(105,pN j)]) 3 (fun (inn : Bool) (j : Nat) => [(0,.obj [pI p1.unit,pK .u32 16777215,pI p1.queue,pS 4 false eWindow p1.windows,pS 2 false eSlot p1.slots]),(1,.obj (cRequest q1)),(2,.obj (cPart e1))]) (fun (inn : Bool) (j : Nat) => p1.windows.length - j) (false) (0) ?_ ⟨[(0,0),(1,1),(2,2)],by rw [hk]; decide,⟨⟨_,rfl,rfl,rfl⟩,⟨_,rfl,rfl,rfl⟩,⟨_,rfl,rfl,rfl⟩,⟨_,rfl,rfl,rfl⟩,⟨_,rfl,rfl,rfl⟩,⟨_,rfl,rfl,rfl⟩,⟨_,rfl,rfl,rfl⟩,⟨_,rfl,rfl,rfl⟩,⟨_,rfl,rfl,rfl⟩,⟨_,rfl,rfl,rfl⟩,⟨_,rfl,rfl,rfl⟩,⟨_,rfl,rfl,rfl⟩,⟨_,rfl,rfl,rfl⟩,⟨_,rfl,rfl,rfl⟩,⟨_,rfl,rfl,rfl⟩,⟨_,rfl,rfl,rfl⟩,trivial⟩,⟨⟨_,_,rfl,rfl,rfl,rfl⟩,⟨_,_,rfl,rfl,rfl,rfl⟩,⟨_,_,rfl,rfl,rfl,rfl⟩,trivial⟩,by rw [hk]; decide⟩ ?_))))
           · exact ⟨by omega,fun h => by omega⟩
           ·intro inn j hJ
            obtain ⟨hj,hin⟩ := hJ
            refine w_seq (w_R (qo hnt rfl (s_lss rfl rfl ?_)))
            refine r_end (q_then (w_seq (w_if rfl (fun c7 => ?_) (fun c7 => ?_))))
            ·have c7_ := c7
             try simp only [sB] at c7
             refine w_skip (q_then (w_seq (w_block (w_seq (w_R ?_)))))
             obtain ⟨e3,he3⟩ := get_of_lt p1.windows (i := j) (by omega)
             refine qo hnt rfl (s_iaM (q := j) (b := e3) (f := eWindow) tab_23 rfl tab_42 rfl rfl (by omega) rfl he3 ?_)
             refine qo hnt rfl (s_load_ro tab_42 rfl rfl rfl ?_)
             refine qo hnt rfl (s_alloc tab_42 ?_)
             refine qo hnt rfl (s_store_ptr tab_42 rfl rfl rfl rfl rfl (Nat.le_of_ble_eq_true rfl) ?_)
             refine r_set [(7,PV.ptr 0 0),(8,PV.ptr 1 0),(10,pI S1.2),(11,pI rd),(12,pI wr),(14,PV.ptr 2 0),(15,pN nn),(16,pI sv),(17,pN k),(18,pB inn),(20,PV.ptr 3 0),(55,pS 10 false ePart S1.1),(56,pN S1.1.length),(57,pN i),(103,pS 4 false eWindow p1.windows),(104,pN p1.windows.length),(105,pN j)] [(3,.obj (cWindow e3)),(0,.obj [pI p1.unit,pK .u32 16777215,pI p1.queue,pS 4 false eWindow p1.windows,pS 2 false eSlot p1.slots]),(1,.obj (cRequest q1)),(2,.obj (cPart e1))] 4 ⟨rfl,rfl,rfl,rfl,rfl,rfl,rfl,rfl,rfl,rfl,rfl,rfl,rfl,rfl,rfl,rfl,rfl,trivial⟩ rfl rfl (r_end (q_then ?_))
             have hwb := (winR_iff e3).1 (hp1.right e3 (List.mem_of_getElem? he3)).1
             refine w_R (qm hnt rfl rfl (qm hnt rfl rfl (r_cut0 28 [(7,PV.ptr 0 0),(8,PV.ptr 1 0),(10,pI S1.2),(11,pI rd),(12,pI wr),(14,PV.ptr 2 0),(15,pN nn),(16,pI sv),(17,pN k),(18,pB inn),(55,pS 10 false ePart S1.1),(56,pN S1.1.length),(57,pN i),(103,pS 4 false eWindow p1.windows),(104,pN p1.windows.length),(105,pN j),(138,pB (inn || (((decide (e3.space = sv)) && (decide (e3.physical ≤ e1.request.at_ + ((k : Nat) : Int)))) && (decide (e1.request.at_ + ((k : Nat) : Int) < e3.physical + e3.count)))))] ?_ ?_)))
             ·refine r_if tabOk hnt rfl rfl rfl (fun g6 => ?_) (fun g6 => ?_)
              ·have g6' := g6
               try simp only [sB] at g6'
               refine qo hnt rfl (s_fa_ptr tab_42 rfl rfl tab_3 (by decide) rfl ?_)
               refine ry hnt rfl rfl rfl g6 (qo hnt rfl (s_load_ptr1 tab_3 rfl rfl rfl rfl rfl ?_))
               refine ry hnt rfl rfl rfl g6 (qm hnt rfl rfl (ry hnt rfl rfl rfl g6 (qo hnt rfl (s_eql rfl rfl ?_))))
               refine ry hnt rfl rfl rfl g6 (qm hnt rfl rfl (r_cut0 9 [(7,PV.ptr 0 0),(8,PV.ptr 1 0),(10,pI S1.2),(11,pI rd),(12,pI wr),(14,PV.ptr 2 0),(15,pN nn),(16,pI sv),(17,pN k),(18,pB inn),(20,PV.ptr 3 0),(55,pS 10 false ePart S1.1),(56,pN S1.1.length),(57,pN i),(103,pS 4 false eWindow p1.windows),(104,pN p1.windows.length),(105,pN j),(110,pB inn),(111,PV.ptr 3 0),(112,pI e3.space),(113,pI sv),(114,pB (decide (e3.space = sv))),(115,pB (decide (e3.space = sv))),(124,pB ((decide (e3.space = sv)) && (decide (e3.physical ≤ e1.request.at_ + ((k : Nat) : Int)))))] ?_ ?_))
               ·refine r_if tabOk hnt rfl rfl rfl (fun g7 => ?_) (fun g7 => ?_)
                ·have g7' := g7
                 try simp only [sB] at g7'
                 refine qo hnt rfl (s_fa_ptr tab_50 rfl rfl tab_37 (by decide) rfl ?_)
                 refine ry hnt rfl rfl rfl g7 (qo hnt rfl (s_fa_ptr tab_37 rfl rfl tab_3 (by decide) rfl ?_))
                 refine ry hnt rfl rfl rfl g7 (qo hnt rfl (s_load_ptr1 tab_3 rfl rfl rfl rfl rfl ?_))
                 refine ry hnt rfl rfl rfl g7 (qm hnt rfl rfl (ry hnt rfl rfl rfl g7 (qo hnt rfl (s_addi (r := e1.request.at_ + ((k : Nat) : Int)) rfl rfl rfl (by omega) ?_))))
                 refine ry hnt rfl rfl rfl g7 (qo hnt rfl (s_fa_ptr tab_42 rfl rfl tab_3 (by decide) rfl ?_))
                 refine ry hnt rfl rfl rfl g7 (qo hnt rfl (s_load_ptr1 tab_3 rfl rfl rfl rfl rfl ?_))
                 refine ry hnt rfl rfl rfl g7 (qo hnt rfl (s_geq rfl rfl ?_))
                 refine ry hnt rfl rfl rfl g6 (qo hnt rfl (s_pick_t rfl g7 rfl ?_))
                 refine r_eq (s := 124) (y := pB ((decide (e3.space = sv)) && (decide (e3.physical ≤ e1.request.at_ + ((k : Nat) : Int))))) rfl (mix_at g7) ?_
                 exact r_mid ⟨⟨rfl,rfl,rfl,rfl,rfl,rfl,rfl,rfl,rfl,rfl,rfl,rfl,rfl,rfl,rfl,rfl,rfl,rfl,rfl,rfl,rfl,rfl,rfl,rfl,trivial⟩,rfl,rfl⟩
                ·have g7' := g7
                 try simp only [sB] at g7'
                 refine rn hnt rfl rfl rfl g7 (rn hnt rfl rfl rfl g7 (rn hnt rfl rfl rfl g7 (rn hnt rfl rfl rfl g7 (rn hnt rfl rfl rfl g7 (rn hnt rfl rfl rfl g7 ?_)))))
                 refine rn hnt rfl rfl rfl g7 (ry hnt rfl rfl rfl g6 (qo hnt rfl (s_pick_f rfl g7 rfl ?_)))
                 refine r_eq (s := 124) (y := pB ((decide (e3.space = sv)) && (decide (e3.physical ≤ e1.request.at_ + ((k : Nat) : Int))))) rfl (mix_af _ g7) ?_
                 exact r_mid ⟨⟨rfl,rfl,rfl,rfl,rfl,rfl,rfl,rfl,rfl,rfl,rfl,rfl,rfl,rfl,rfl,rfl,rfl,rfl,rfl,rfl,rfl,rfl,rfl,rfl,trivial⟩,rfl,rfl⟩
               ·refine ry hnt rfl rfl rfl g6 (qm hnt rfl rfl (r_cut0 12 [(7,PV.ptr 0 0),(8,PV.ptr 1 0),(10,pI S1.2),(11,pI rd),(12,pI wr),(14,PV.ptr 2 0),(15,pN nn),(16,pI sv),(17,pN k),(18,pB inn),(55,pS 10 false ePart S1.1),(56,pN S1.1.length),(57,pN i),(103,pS 4 false eWindow p1.windows),(104,pN p1.windows.length),(105,pN j),(110,pB inn),(111,PV.ptr 3 0),(112,pI e3.space),(113,pI sv),(114,pB (decide (e3.space = sv))),(115,pB (decide (e3.space = sv))),(124,pB ((decide (e3.space = sv)) && (decide (e3.physical ≤ e1.request.at_ + ((k : Nat) : Int))))),(125,pB ((decide (e3.space = sv)) && (decide (e3.physical ≤ e1.request.at_ + ((k : Nat) : Int))))),(137,pB (((decide (e3.space = sv)) && (decide (e3.physical ≤ e1.request.at_ + ((k : Nat) : Int)))) && (decide (e1.request.at_ + ((k : Nat) : Int) < e3.physical + e3.count))))] ?_ ?_))
                ·refine r_if tabOk hnt rfl rfl rfl (fun g8 => ?_) (fun g8 => ?_)
                 ·have g8' := g8
                  try simp only [sB] at g8'
                  refine qo hnt rfl (s_fa_ptr tab_50 rfl rfl tab_37 (by decide) rfl ?_)
                  refine ry hnt rfl rfl rfl g8 (qo hnt rfl (s_fa_ptr tab_37 rfl rfl tab_3 (by decide) rfl ?_))
                  refine ry hnt rfl rfl rfl g8 (qo hnt rfl (s_load_ptr1 tab_3 rfl rfl rfl rfl rfl ?_))
                  refine ry hnt rfl rfl rfl g8 (qm hnt rfl rfl (ry hnt rfl rfl rfl g8 (qo hnt rfl (s_addi (r := e1.request.at_ + ((k : Nat) : Int)) rfl rfl rfl (by omega) ?_))))
                  refine ry hnt rfl rfl rfl g8 (qo hnt rfl (s_fa_ptr tab_42 rfl rfl tab_3 (by decide) rfl ?_))
                  refine ry hnt rfl rfl rfl g8 (qo hnt rfl (s_load_ptr1 tab_3 rfl rfl rfl rfl rfl ?_))
                  refine ry hnt rfl rfl rfl g8 (qo hnt rfl (s_fa_ptr tab_42 rfl rfl tab_3 (by decide) rfl ?_))
                  refine ry hnt rfl rfl rfl g8 (qo hnt rfl (s_load_ptr1 tab_3 rfl rfl rfl rfl rfl ?_))
                  refine ry hnt rfl rfl rfl g8 (qo hnt rfl (s_addi (r := e3.physical + e3.count) rfl rfl rfl (by omega) ?_))
                  refine ry hnt rfl rfl rfl g8 (qo hnt rfl (s_lss rfl rfl ?_))
                  refine ry hnt rfl rfl rfl g6 (qo hnt rfl (s_pick_t rfl g8 rfl ?_))
                  refine r_eq (s := 137) (y := pB (((decide (e3.space = sv)) && (decide (e3.physical ≤ e1.request.at_ + ((k : Nat) : Int)))) && (decide (e1.request.at_ + ((k : Nat) : Int) < e3.physical + e3.count)))) rfl (mix_at g8) ?_
                  exact r_mid ⟨⟨rfl,rfl,rfl,rfl,rfl,rfl,rfl,rfl,rfl,rfl,rfl,rfl,rfl,rfl,rfl,rfl,rfl,rfl,rfl,rfl,rfl,rfl,rfl,rfl,rfl,trivial⟩,rfl,rfl⟩
                 ·have g8' := g8
                  try simp only [sB] at g8'
                  refine rn hnt rfl rfl rfl g8 (rn hnt rfl rfl rfl g8 (rn hnt rfl rfl rfl g8 (rn hnt rfl rfl rfl g8 (rn hnt rfl rfl rfl g8 (rn hnt rfl rfl rfl g8 ?_)))))
                  refine rn hnt rfl rfl rfl g8 (rn hnt rfl rfl rfl g8 (rn hnt rfl rfl rfl g8 (rn hnt rfl rfl rfl g8 (ry hnt rfl rfl rfl g6 (qo hnt rfl (s_pick_f rfl g8 rfl ?_))))))
                  refine r_eq (s := 137) (y := pB (((decide (e3.space = sv)) && (decide (e3.physical ≤ e1.request.at_ + ((k : Nat) : Int)))) && (decide (e1.request.at_ + ((k : Nat) : Int) < e3.physical + e3.count)))) rfl (mix_af _ g8) ?_
                  exact r_mid ⟨⟨rfl,rfl,rfl,rfl,rfl,rfl,rfl,rfl,rfl,rfl,rfl,rfl,rfl,rfl,rfl,rfl,rfl,rfl,rfl,rfl,rfl,rfl,rfl,rfl,rfl,trivial⟩,rfl,rfl⟩
                ·refine qo hnt rfl (s_pick_f rfl g6 rfl ?_)
                 refine r_eq (s := 138) (y := pB (inn || (((decide (e3.space = sv)) && (decide (e3.physical ≤ e1.request.at_ + ((k : Nat) : Int)))) && (decide (e1.request.at_ + ((k : Nat) : Int) < e3.physical + e3.count))))) rfl (mix_of g6) ?_
                 exact r_mid ⟨⟨rfl,rfl,rfl,rfl,rfl,rfl,rfl,rfl,rfl,rfl,rfl,rfl,rfl,rfl,rfl,rfl,rfl,trivial⟩,rfl,rfl⟩
              ·have g6' := g6
               try simp only [sB] at g6'
               refine rn hnt rfl rfl rfl g6 (rn hnt rfl rfl rfl g6 (rn hnt rfl rfl rfl g6 (rn hnt rfl rfl rfl g6 (ru hnt rfl rfl rfl (ru hnt rfl rfl rfl ?_)))))
               refine ru hnt rfl rfl rfl (ru hnt rfl rfl rfl (ru hnt rfl rfl rfl (ru hnt rfl rfl rfl (ru hnt rfl rfl rfl (ru hnt rfl rfl rfl ?_)))))
               refine rn hnt rfl rfl rfl g6 (rn hnt rfl rfl rfl g6 (ru hnt rfl rfl rfl (ru hnt rfl rfl rfl (ru hnt rfl rfl rfl (ru hnt rfl rfl rfl ?_)))))
               refine ru hnt rfl rfl rfl (ru hnt rfl rfl rfl (ru hnt rfl rfl rfl (ru hnt rfl rfl rfl (ru hnt rfl rfl rfl (ru hnt rfl rfl rfl ?_)))))
               refine ru hnt rfl rfl rfl (rn hnt rfl rfl rfl g6 (qo hnt rfl (s_pick_t rfl g6 rfl ?_)))
               refine r_eq (s := 138) (y := pB (inn || (((decide (e3.space = sv)) && (decide (e3.physical ≤ e1.request.at_ + ((k : Nat) : Int)))) && (decide (e1.request.at_ + ((k : Nat) : Int) < e3.physical + e3.count))))) rfl (mix_ot _ g6) ?_
               exact r_mid ⟨⟨rfl,rfl,rfl,rfl,rfl,rfl,rfl,rfl,rfl,rfl,rfl,rfl,rfl,rfl,rfl,rfl,rfl,trivial⟩,rfl,rfl⟩
             ·refine qa hnt rfl rfl (r_end (q_block (q_then (w_R (qo hnt rfl (s_addN (a := j) (b := 1) rfl rfl (by omega) (by omega) (by omega) ?_))))))
              refine qm hnt rfl rfl (r_end (q_then (⟨(inn || (((decide (e3.space = sv)) && (decide (e3.physical ≤ e1.request.at_ + ((k : Nat) : Int)))) && (decide (e1.request.at_ + ((k : Nat) : Int) < e3.physical + e3.count)))),(j + 1), ?_, ?_,⟨[(0,0),(1,1),(2,2)],by rw [hk]; decide,⟨⟨_,rfl,rfl,rfl⟩,⟨_,rfl,rfl,rfl⟩,⟨_,rfl,rfl,rfl⟩,⟨_,rfl,rfl,rfl⟩,⟨_,rfl,rfl,rfl⟩,⟨_,rfl,rfl,rfl⟩,⟨_,rfl,rfl,rfl⟩,⟨_,rfl,rfl,rfl⟩,⟨_,rfl,rfl,rfl⟩,⟨_,rfl,rfl,rfl⟩,⟨_,rfl,rfl,rfl⟩,⟨_,rfl,rfl,rfl⟩,⟨_,rfl,rfl,rfl⟩,⟨_,rfl,rfl,rfl⟩,⟨_,rfl,rfl,rfl⟩,⟨_,rfl,rfl,rfl⟩,trivial⟩,⟨⟨_,_,rfl,rfl,rfl,rfl⟩,⟨_,_,rfl,rfl,rfl,rfl⟩,⟨_,_,rfl,rfl,rfl,rfl⟩,trivial⟩,by rw [hk]; decide⟩⟩)))
              ·refine ⟨by omega,fun h => ?_⟩
               by_cases hjj : j = j0
               · have h9 : p1.windows[j]? = some w0 := by rw [hjj]; exact hw0
                 (have h8 := Option.some.inj (he3.symm.trans h9); subst h8; simp only [Bool.or_eq_true,Bool.and_eq_true,decide_eq_true_eq]; right; omega)
               · (rw [hin (by omega)]; first|rfl|simp)
              · omega
            have c7_ := c7
            try simp only [sB] at c7
            refine w_exit (q_then_exit (q_then_exit (q_block_exit (q_then (w_seq ?_)))))
            refine w_R (qm hnt rfl rfl (qo hnt rfl (s_not rfl ?_)))
            refine r_end (q_then (w_if rfl (fun c8 => ?_) (fun c8 => ?_)))
            ·have c8_ := c8
             exact absurd c8 (by rw [hin (by omega)]; simp)
            have c8_ := c8
            try simp only [sB] at c8
            refine w_skip (q_block (q_then (w_R (qm hnt rfl rfl (qo hnt rfl (s_addN (a := k) (b := 1) rfl rfl (by omega) (by omega) (by omega) ?_))))))
            refine qa hnt rfl rfl (r_end (q_then (⟨(k + 1), ?_, ?_,⟨[(0,0),(1,1),(2,2)],by rw [hk]; decide,⟨⟨_,rfl,rfl,rfl⟩,⟨_,rfl,rfl,rfl⟩,⟨_,rfl,rfl,rfl⟩,⟨_,rfl,rfl,rfl⟩,⟨_,rfl,rfl,rfl⟩,⟨_,rfl,rfl,rfl⟩,⟨_,rfl,rfl,rfl⟩,⟨_,rfl,rfl,rfl⟩,⟨_,rfl,rfl,rfl⟩,⟨_,rfl,rfl,rfl⟩,⟨_,rfl,rfl,rfl⟩,⟨_,rfl,rfl,rfl⟩,trivial⟩,⟨⟨_,_,rfl,rfl,rfl,rfl⟩,⟨_,_,rfl,rfl,rfl,rfl⟩,⟨_,_,rfl,rfl,rfl,rfl⟩,trivial⟩,by rw [hk]; decide⟩⟩)))
            ·omega
            · omega
          have c6_ := c6
          try simp only [sB] at c6
          refine w_exit (q_then_exit (q_then_exit (q_block_exit (q_then (w_seq ?_)))))
          refine w_R (qo hnt rfl (s_fa_ptr tab_50 rfl rfl tab_4 (by decide) rfl ?_))
          refine qo hnt rfl (s_load_ptr1 tab_4 rfl rfl rfl rfl rfl ?_)
          refine r_end (q_then (w_if rfl (fun c9 => ?_) (fun c9 => ?_)))
          ·have c9_ := c9
           try simp only [sB] at c9
           refine w_R (qm hnt rfl rfl (qm hnt rfl rfl (qo hnt rfl (s_addi (r := wr + ((nn : Nat) : Int)) rfl rfl rfl (by omega) ?_))))
           refine qa hnt rfl rfl (r_end (q_block (q_then (w_R (qo hnt rfl (s_addN (a := i) (b := 1) rfl rfl (by omega) (by omega) (by omega) ?_))))))
           refine qm hnt rfl rfl (r_end (q_then (⟨(rd),(wr + ((nn : Nat) : Int)),(i + 1), ?_, ?_,⟨[(0,0),(1,1)],by rw [hk]; decide,⟨⟨_,rfl,rfl,rfl⟩,⟨_,rfl,rfl,rfl⟩,⟨_,rfl,rfl,rfl⟩,⟨_,rfl,rfl,rfl⟩,⟨_,rfl,rfl,rfl⟩,⟨_,rfl,rfl,rfl⟩,⟨_,rfl,rfl,rfl⟩,⟨_,rfl,rfl,rfl⟩,trivial⟩,⟨⟨_,_,rfl,rfl,rfl,rfl⟩,⟨_,_,rfl,rfl,rfl,rfl⟩,trivial⟩,by rw [hk]; decide⟩⟩)))
           ·refine ⟨by omega, ?_, ?_,by omega,by omega,by omega,by omega⟩
            · exact rdS_yes he1 (by assumption) hrd
            · exact wrS_yes he1 (by assumption) hwr hnn
           · omega
          have c9_ := c9
          try simp only [sB] at c9
          refine w_R (qm hnt rfl rfl (qm hnt rfl rfl (qo hnt rfl (s_addi (r := rd + ((nn : Nat) : Int)) rfl rfl rfl (by omega) ?_))))
          refine qa hnt rfl rfl (r_end (q_block (q_then (w_R (qo hnt rfl (s_addN (a := i) (b := 1) rfl rfl (by omega) (by omega) (by omega) ?_))))))
          refine qm hnt rfl rfl (r_end (q_then (⟨(rd + ((nn : Nat) : Int)),(wr),(i + 1), ?_, ?_,⟨[(0,0),(1,1)],by rw [hk]; decide,⟨⟨_,rfl,rfl,rfl⟩,⟨_,rfl,rfl,rfl⟩,⟨_,rfl,rfl,rfl⟩,⟨_,rfl,rfl,rfl⟩,⟨_,rfl,rfl,rfl⟩,⟨_,rfl,rfl,rfl⟩,⟨_,rfl,rfl,rfl⟩,⟨_,rfl,rfl,rfl⟩,trivial⟩,⟨⟨_,_,rfl,rfl,rfl,rfl⟩,⟨_,_,rfl,rfl,rfl,rfl⟩,trivial⟩,by rw [hk]; decide⟩⟩)))
          ·refine ⟨by omega, ?_, ?_,by omega,by omega,by omega,by omega⟩
           · exact rdS_no he1 (by assumption) hrd hnn
           · exact wrS_no he1 (by assumption) hwr
          · omega
        have c4_ := c4
        try simp only [sB] at c4
        refine w_skip (q_then (join1 (fun (sv : Int) => sv = spP e1.request.fn) (fun (sv : Int) => [(7,PV.ptr 0 0),(8,PV.ptr 1 0),(10,pI S1.2),(11,pI rd),(12,pI wr),(14,PV.ptr 2 0),(15,pN nn),(16,pI sv),(55,pS 10 false ePart S1.1),(56,pN S1.1.length),(57,pN i)]) 3 (fun (sv : Int) => [(0,.obj [pI p1.unit,pK .u32 16777215,pI p1.queue,pS 4 false eWindow p1.windows,pS 2 false eSlot p1.slots]),(1,.obj (cRequest q1)),(2,.obj (cPart e1))]) ?_ ?_))
        ·refine w_seq (w_R (qo hnt rfl (s_fa_ptr tab_50 rfl rfl tab_37 (by decide) rfl ?_)))
         refine qo hnt rfl (s_fa_ptr tab_37 rfl rfl tab_3 (by decide) rfl ?_)
         refine qo hnt rfl (s_load_ptr1 tab_3 rfl rfl rfl rfl rfl ?_)
         refine qo hnt rfl (s_eql rfl rfl ?_)
         refine r_end (q_then (w_if rfl (fun c10 => ?_) (fun c10 => ?_)))
         ·have c10_ := c10
          try simp only [sB] at c10
          refine w_R (qa hnt rfl rfl (r_end (q_then (⟨(3), ?_,⟨[(0,0),(1,1),(2,2)],by rw [hk]; decide,⟨⟨_,rfl,rfl,rfl⟩,⟨_,rfl,rfl,rfl⟩,⟨_,rfl,rfl,rfl⟩,⟨_,rfl,rfl,rfl⟩,⟨_,rfl,rfl,rfl⟩,⟨_,rfl,rfl,rfl⟩,⟨_,rfl,rfl,rfl⟩,⟨_,rfl,rfl,rfl⟩,⟨_,rfl,rfl,rfl⟩,⟨_,rfl,rfl,rfl⟩,⟨_,rfl,rfl,rfl⟩,trivial⟩,⟨⟨_,_,rfl,rfl,rfl,rfl⟩,⟨_,_,rfl,rfl,rfl,rfl⟩,⟨_,_,rfl,rfl,rfl,rfl⟩,trivial⟩,by rw [hk]; decide⟩⟩))))
          exact (spP_3 (by omega)).symm
         have c10_ := c10
         try simp only [sB] at c10
         refine w_skip (q_then (⟨(e2), ?_,⟨[(0,0),(1,1),(2,2)],by rw [hk]; decide,⟨⟨_,rfl,rfl,rfl⟩,⟨_,rfl,rfl,rfl⟩,⟨_,rfl,rfl,rfl⟩,⟨_,rfl,rfl,rfl⟩,⟨_,rfl,rfl,rfl⟩,⟨_,rfl,rfl,rfl⟩,⟨_,rfl,rfl,rfl⟩,⟨_,rfl,rfl,rfl⟩,⟨_,rfl,rfl,rfl⟩,⟨_,rfl,rfl,rfl⟩,⟨_,rfl,rfl,rfl⟩,trivial⟩,⟨⟨_,_,rfl,rfl,rfl,rfl⟩,⟨_,_,rfl,rfl,rfl,rfl⟩,⟨_,_,rfl,rfl,rfl,rfl⟩,trivial⟩,by rw [hk]; decide⟩⟩))
         (rw [hfk]; exact sp_idx (by omega) he2)
        intro sv hsv
        refine w_seq (w_seq (w_R (qa hnt rfl rfl (r_end (q_then ?_)))))
        refine w_block (loop1 (fun (k : Nat) => k ≤ nn) (fun (k : Nat) => [(7,PV.ptr 0 0),(8,PV.ptr 1 0),(10,pI S1.2),(11,pI rd),(12,pI wr),(14,PV.ptr 2 0),(15,pN nn),(16,pI sv),(17,pN k),(55,pS 10 false ePart S1.1),(56,pN S1.1.length),(57,pN i)]) 3 (fun (k : Nat) => [(0,.obj [pI p1.unit,pK .u32 16777215,pI p1.queue,pS 4 false eWindow p1.windows,pS 2 false eSlot p1.slots]),(1,.obj (cRequest q1)),(2,.obj (cPart e1))]) (fun (k : Nat) => nn - k) (0) ?_ ⟨[(0,0),(1,1),(2,2)],by rw [hk]; decide,⟨⟨_,rfl,rfl,rfl⟩,⟨_,rfl,rfl,rfl⟩,⟨_,rfl,rfl,rfl⟩,⟨_,rfl,rfl,rfl⟩,⟨_,rfl,rfl,rfl⟩,⟨_,rfl,rfl,rfl⟩,⟨_,rfl,rfl,rfl⟩,⟨_,rfl,rfl,rfl⟩,⟨_,rfl,rfl,rfl⟩,⟨_,rfl,rfl,rfl⟩,⟨_,rfl,rfl,rfl⟩,⟨_,rfl,rfl,rfl⟩,trivial⟩,⟨⟨_,_,rfl,rfl,rfl,rfl⟩,⟨_,_,rfl,rfl,rfl,rfl⟩,⟨_,_,rfl,rfl,rfl,rfl⟩,trivial⟩,by rw [hk]; decide⟩ ?_)
        · omega
        ·intro k hK
         refine w_seq (w_seq (w_R (qm hnt rfl rfl (qm hnt rfl rfl (qo hnt rfl (s_lss rfl rfl ?_))))))
         refine r_end (q_then (w_if rfl (fun c11 => ?_) (fun c11 => ?_)))
         ·have c11_ := c11
          try simp only [sB] at c11
          refine w_skip (q_then (w_seq (w_block (w_seq (w_R ?_)))))
          refine qa hnt rfl rfl (r_end (q_then (w_seq (w_seq (w_R ?_)))))
          refine qo hnt rfl (s_fa_ptr tab_26 rfl rfl tab_23 (by decide) rfl ?_)
          refine qo hnt rfl (s_load_ptr1 tab_23 rfl rfl rfl rfl rfl ?_)
          refine qo hnt rfl (s_lenM (l := p1.windows) tab_23 rfl (hM_sl (f := eWindow) rfl) ?_)
          refine qm hnt rfl rfl (r_end (q_then (w_block (loop2 (fun (inn : Bool) (j : Nat) => j ≤ p1.windows.length ∧ (j0 < j → inn = true)) (fun (inn : Bool) (j : Nat) => [(7,PV.ptr 0 0),(8,PV.ptr 1 0),(10,pI S1.2),(11,pI rd),(12,pI wr),(14,PV.ptr 2 0),(15,pN nn),(16,pI sv),(17,pN k),(18,pB inn),(55,pS 10 false ePart S1.1),(56,pN S1.1.length),(57,pN i),(103,pS 4 false eWindow p1.windows),(104,pN p1.windows.length),(105,pN j)]) 3 (fun (inn : Bool) (j : Nat) => [(0,.obj [pI p1.unit,pK .u32 16777215,pI p1.queue,pS 4 false eWindow p1.windows,pS 2 false eSlot p1.slots]),(1,.obj (cRequest q1)),(2,.obj (cPart e1))]) (fun (inn : Bool) (j : Nat) => p1.windows.length - j) (false) (0) ?_ ⟨[(0,0),(1,1),(2,2)],by rw [hk]; decide,⟨⟨_,rfl,rfl,rfl⟩,⟨_,rfl,rfl,rfl⟩,⟨_,rfl,rfl,rfl⟩,⟨_,rfl,rfl,rfl⟩,⟨_,rfl,rfl,rfl⟩,⟨_,rfl,rfl,rfl⟩,⟨_,rfl,rfl,rfl⟩,⟨_,rfl,rfl,rfl⟩,⟨_,rfl,rfl,rfl⟩,⟨_,rfl,rfl,rfl⟩,⟨_,rfl,rfl,rfl⟩,⟨_,rfl,rfl,rfl⟩,⟨_,rfl,rfl,rfl⟩,⟨_,rfl,rfl,rfl⟩,⟨_,rfl,rfl,rfl⟩,⟨_,rfl,rfl,rfl⟩,trivial⟩,⟨⟨_,_,rfl,rfl,rfl,rfl⟩,⟨_,_,rfl,rfl,rfl,rfl⟩,⟨_,_,rfl,rfl,rfl,rfl⟩,trivial⟩,by rw [hk]; decide⟩ ?_))))
          · exact ⟨by omega,fun h => by omega⟩
          ·intro inn j hJ
           obtain ⟨hj,hin⟩ := hJ
           refine w_seq (w_R (qo hnt rfl (s_lss rfl rfl ?_)))
           refine r_end (q_then (w_seq (w_if rfl (fun c12 => ?_) (fun c12 => ?_))))
           ·have c12_ := c12
            try simp only [sB] at c12
            refine w_skip (q_then (w_seq (w_block (w_seq (w_R ?_)))))
            obtain ⟨e4,he4⟩ := get_of_lt p1.windows (i := j) (by omega)
            refine qo hnt rfl (s_iaM (q := j) (b := e4) (f := eWindow) tab_23 rfl tab_42 rfl rfl (by omega) rfl he4 ?_)
            refine qo hnt rfl (s_load_ro tab_42 rfl rfl rfl ?_)
            refine qo hnt rfl (s_alloc tab_42 ?_)
            refine qo hnt rfl (s_store_ptr tab_42 rfl rfl rfl rfl rfl (Nat.le_of_ble_eq_true rfl) ?_)
            refine r_set [(7,PV.ptr 0 0),(8,PV.ptr 1 0),(10,pI S1.2),(11,pI rd),(12,pI wr),(14,PV.ptr 2 0),(15,pN nn),(16,pI sv),(17,pN k),(18,pB inn),(20,PV.ptr 3 0),(55,pS 10 false ePart S1.1),(56,pN S1.1.length),(57,pN i),(103,pS 4 false eWindow p1.windows),(104,pN p1.windows.length),(105,pN j)] [(3,.obj (cWindow e4)),(0,.obj [pI p1.unit,pK .u32 16777215,pI p1.queue,pS 4 false eWindow p1.windows,pS 2 false eSlot p1.slots]),(1,.obj (cRequest q1)),(2,.obj (cPart e1))] 4 ⟨rfl,rfl,rfl,rfl,rfl,rfl,rfl,rfl,rfl,rfl,rfl,rfl,rfl,rfl,rfl,rfl,rfl,trivial⟩ rfl rfl (r_end (q_then ?_))
            have hwb := (winR_iff e4).1 (hp1.right e4 (List.mem_of_getElem? he4)).1
            refine w_R (qm hnt rfl rfl (qm hnt rfl rfl (r_cut0 28 [(7,PV.ptr 0 0),(8,PV.ptr 1 0),(10,pI S1.2),(11,pI rd),(12,pI wr),(14,PV.ptr 2 0),(15,pN nn),(16,pI sv),(17,pN k),(18,pB inn),(55,pS 10 false ePart S1.1),(56,pN S1.1.length),(57,pN i),(103,pS 4 false eWindow p1.windows),(104,pN p1.windows.length),(105,pN j),(138,pB (inn || (((decide (e4.space = sv)) && (decide (e4.physical ≤ e1.request.at_ + ((k : Nat) : Int)))) && (decide (e1.request.at_ + ((k : Nat) : Int) < e4.physical + e4.count)))))] ?_ ?_)))
            ·refine r_if tabOk hnt rfl rfl rfl (fun g9 => ?_) (fun g9 => ?_)
             ·have g9' := g9
              try simp only [sB] at g9'
              refine qo hnt rfl (s_fa_ptr tab_42 rfl rfl tab_3 (by decide) rfl ?_)
              refine ry hnt rfl rfl rfl g9 (qo hnt rfl (s_load_ptr1 tab_3 rfl rfl rfl rfl rfl ?_))
              refine ry hnt rfl rfl rfl g9 (qm hnt rfl rfl (ry hnt rfl rfl rfl g9 (qo hnt rfl (s_eql rfl rfl ?_))))
              refine ry hnt rfl rfl rfl g9 (qm hnt rfl rfl (r_cut0 9 [(7,PV.ptr 0 0),(8,PV.ptr 1 0),(10,pI S1.2),(11,pI rd),(12,pI wr),(14,PV.ptr 2 0),(15,pN nn),(16,pI sv),(17,pN k),(18,pB inn),(20,PV.ptr 3 0),(55,pS 10 false ePart S1.1),(56,pN S1.1.length),(57,pN i),(103,pS 4 false eWindow p1.windows),(104,pN p1.windows.length),(105,pN j),(110,pB inn),(111,PV.ptr 3 0),(112,pI e4.space),(113,pI sv),(114,pB (decide (e4.space = sv))),(115,pB (decide (e4.space = sv))),(124,pB ((decide (e4.space = sv)) && (decide (e4.physical ≤ e1.request.at_ + ((k : Nat) : Int)))))] ?_ ?_))
              ·refine r_if tabOk hnt rfl rfl rfl (fun g10 => ?_) (fun g10 => ?_)
               ·have g10' := g10
                try simp only [sB] at g10'
                refine qo hnt rfl (s_fa_ptr tab_50 rfl rfl tab_37 (by decide) rfl ?_)
                refine ry hnt rfl rfl rfl g10 (qo hnt rfl (s_fa_ptr tab_37 rfl rfl tab_3 (by decide) rfl ?_))
                refine ry hnt rfl rfl rfl g10 (qo hnt rfl (s_load_ptr1 tab_3 rfl rfl rfl rfl rfl ?_))
                refine ry hnt rfl rfl rfl g10 (qm hnt rfl rfl (ry hnt rfl rfl rfl g10 (qo hnt rfl (s_addi (r := e1.request.at_ + ((k : Nat) : Int)) rfl rfl rfl (by omega) ?_))))
                refine ry hnt rfl rfl rfl g10 (qo hnt rfl (s_fa_ptr tab_42 rfl rfl tab_3 (by decide) rfl ?_))
                refine ry hnt rfl rfl rfl g10 (qo hnt rfl (s_load_ptr1 tab_3 rfl rfl rfl rfl rfl ?_))
                refine ry hnt rfl rfl rfl g10 (qo hnt rfl (s_geq rfl rfl ?_))
                refine ry hnt rfl rfl rfl g9 (qo hnt rfl (s_pick_t rfl g10 rfl ?_))
                refine r_eq (s := 124) (y := pB ((decide (e4.space = sv)) && (decide (e4.physical ≤ e1.request.at_ + ((k : Nat) : Int))))) rfl (mix_at g10) ?_
                exact r_mid ⟨⟨rfl,rfl,rfl,rfl,rfl,rfl,rfl,rfl,rfl,rfl,rfl,rfl,rfl,rfl,rfl,rfl,rfl,rfl,rfl,rfl,rfl,rfl,rfl,rfl,trivial⟩,rfl,rfl⟩
               ·have g10' := g10
                try simp only [sB] at g10'
                refine rn hnt rfl rfl rfl g10 (rn hnt rfl rfl rfl g10 (rn hnt rfl rfl rfl g10 (rn hnt rfl rfl rfl g10 (rn hnt rfl rfl rfl g10 (rn hnt rfl rfl rfl g10 ?_)))))
                refine rn hnt rfl rfl rfl g10 (ry hnt rfl rfl rfl g9 (qo hnt rfl (s_pick_f rfl g10 rfl ?_)))
                refine r_eq (s := 124) (y := pB ((decide (e4.space = sv)) && (decide (e4.physical ≤ e1.request.at_ + ((k : Nat) : Int))))) rfl (mix_af _ g10) ?_
                exact r_mid ⟨⟨rfl,rfl,rfl,rfl,rfl,rfl,rfl,rfl,rfl,rfl,rfl,rfl,rfl,rfl,rfl,rfl,rfl,rfl,rfl,rfl,rfl,rfl,rfl,rfl,trivial⟩,rfl,rfl⟩
              ·refine ry hnt rfl rfl rfl g9 (qm hnt rfl rfl (r_cut0 12 [(7,PV.ptr 0 0),(8,PV.ptr 1 0),(10,pI S1.2),(11,pI rd),(12,pI wr),(14,PV.ptr 2 0),(15,pN nn),(16,pI sv),(17,pN k),(18,pB inn),(55,pS 10 false ePart S1.1),(56,pN S1.1.length),(57,pN i),(103,pS 4 false eWindow p1.windows),(104,pN p1.windows.length),(105,pN j),(110,pB inn),(111,PV.ptr 3 0),(112,pI e4.space),(113,pI sv),(114,pB (decide (e4.space = sv))),(115,pB (decide (e4.space = sv))),(124,pB ((decide (e4.space = sv)) && (decide (e4.physical ≤ e1.request.at_ + ((k : Nat) : Int))))),(125,pB ((decide (e4.space = sv)) && (decide (e4.physical ≤ e1.request.at_ + ((k : Nat) : Int))))),(137,pB (((decide (e4.space = sv)) && (decide (e4.physical ≤ e1.request.at_ + ((k : Nat) : Int)))) && (decide (e1.request.at_ + ((k : Nat) : Int) < e4.physical + e4.count))))] ?_ ?_))
               ·refine r_if tabOk hnt rfl rfl rfl (fun g11 => ?_) (fun g11 => ?_)
                ·have g11' := g11
                 try simp only [sB] at g11'
                 refine qo hnt rfl (s_fa_ptr tab_50 rfl rfl tab_37 (by decide) rfl ?_)
                 refine ry hnt rfl rfl rfl g11 (qo hnt rfl (s_fa_ptr tab_37 rfl rfl tab_3 (by decide) rfl ?_))
                 refine ry hnt rfl rfl rfl g11 (qo hnt rfl (s_load_ptr1 tab_3 rfl rfl rfl rfl rfl ?_))
                 refine ry hnt rfl rfl rfl g11 (qm hnt rfl rfl (ry hnt rfl rfl rfl g11 (qo hnt rfl (s_addi (r := e1.request.at_ + ((k : Nat) : Int)) rfl rfl rfl (by omega) ?_))))
                 refine ry hnt rfl rfl rfl g11 (qo hnt rfl (s_fa_ptr tab_42 rfl rfl tab_3 (by decide) rfl ?_))
                 refine ry hnt rfl rfl rfl g11 (qo hnt rfl (s_load_ptr1 tab_3 rfl rfl rfl rfl rfl ?_))
                 refine ry hnt rfl rfl rfl g11 (qo hnt rfl (s_fa_ptr tab_42 rfl rfl tab_3 (by decide) rfl ?_))
                 refine ry hnt rfl rfl rfl g11 (qo hnt rfl (s_load_ptr1 tab_3 rfl rfl rfl rfl rfl ?_))
                 refine ry hnt rfl rfl rfl g11 (qo hnt rfl (s_addi (r := e4.physical + e4.count) rfl rfl rfl (by omega) ?_))
                 refine ry hnt rfl rfl rfl g11 (qo hnt rfl (s_lss rfl rfl ?_))
                 refine ry hnt rfl rfl rfl g9 (qo hnt rfl (s_pick_t rfl g11 rfl ?_))
                 refine r_eq (s := 137) (y := pB (((decide (e4.space = sv)) && (decide (e4.physical ≤ e1.request.at_ + ((k : Nat) : Int)))) && (decide (e1.request.at_ + ((k : Nat) : Int) < e4.physical + e4.count)))) rfl (mix_at g11) ?_
                 exact r_mid ⟨⟨rfl,rfl,rfl,rfl,rfl,rfl,rfl,rfl,rfl,rfl,rfl,rfl,rfl,rfl,rfl,rfl,rfl,rfl,rfl,rfl,rfl,rfl,rfl,rfl,rfl,trivial⟩,rfl,rfl⟩
                ·have g11' := g11
                 try simp only [sB] at g11'
                 refine rn hnt rfl rfl rfl g11 (rn hnt rfl rfl rfl g11 (rn hnt rfl rfl rfl g11 (rn hnt rfl rfl rfl g11 (rn hnt rfl rfl rfl g11 (rn hnt rfl rfl rfl g11 ?_)))))
                 refine rn hnt rfl rfl rfl g11 (rn hnt rfl rfl rfl g11 (rn hnt rfl rfl rfl g11 (rn hnt rfl rfl rfl g11 (ry hnt rfl rfl rfl g9 (qo hnt rfl (s_pick_f rfl g11 rfl ?_))))))
                 refine r_eq (s := 137) (y := pB (((decide (e4.space = sv)) && (decide (e4.physical ≤ e1.request.at_ + ((k : Nat) : Int)))) && (decide (e1.request.at_ + ((k : Nat) : Int) < e4.physical + e4.count)))) rfl (mix_af _ g11) ?_
                 exact r_mid ⟨⟨rfl,rfl,rfl,rfl,rfl,rfl,rfl,rfl,rfl,rfl,rfl,rfl,rfl,rfl,rfl,rfl,rfl,rfl,rfl,rfl,rfl,rfl,rfl,rfl,rfl,trivial⟩,rfl,rfl⟩
               ·refine qo hnt rfl (s_pick_f rfl g9 rfl ?_)
                refine r_eq (s := 138) (y := pB (inn || (((decide (e4.space = sv)) && (decide (e4.physical ≤ e1.request.at_ + ((k : Nat) : Int)))) && (decide (e1.request.at_ + ((k : Nat) : Int) < e4.physical + e4.count))))) rfl (mix_of g9) ?_
                exact r_mid ⟨⟨rfl,rfl,rfl,rfl,rfl,rfl,rfl,rfl,rfl,rfl,rfl,rfl,rfl,rfl,rfl,rfl,rfl,trivial⟩,rfl,rfl⟩
             ·have g9' := g9
              try simp only [sB] at g9'
              refine rn hnt rfl rfl rfl g9 (rn hnt rfl rfl rfl g9 (rn hnt rfl rfl rfl g9 (rn hnt rfl rfl rfl g9 (ru hnt rfl rfl rfl (ru hnt rfl rfl rfl ?_)))))
              refine ru hnt rfl rfl rfl (ru hnt rfl rfl rfl (ru hnt rfl rfl rfl (ru hnt rfl rfl rfl (ru hnt rfl rfl rfl (ru hnt rfl rfl rfl ?_)))))
              refine rn hnt rfl rfl rfl g9 (rn hnt rfl rfl rfl g9 (ru hnt rfl rfl rfl (ru hnt rfl rfl rfl (ru hnt rfl rfl rfl (ru hnt rfl rfl rfl ?_)))))
              refine ru hnt rfl rfl rfl (ru hnt rfl rfl rfl (ru hnt rfl rfl rfl (ru hnt rfl rfl rfl (ru hnt rfl rfl rfl (ru hnt rfl rfl rfl ?_)))))
              refine ru hnt rfl rfl rfl (rn hnt rfl rfl rfl g9 (qo hnt rfl (s_pick_t rfl g9 rfl ?_)))
              refine r_eq (s := 138) (y := pB (inn || (((decide (e4.space = sv)) && (decide (e4.physical ≤ e1.request.at_ + ((k : Nat) : Int)))) && (decide (e1.request.at_ + ((k : Nat) : Int) < e4.physical + e4.count))))) rfl (mix_ot _ g9) ?_
              exact r_mid ⟨⟨rfl,rfl,rfl,rfl,rfl,rfl,rfl,rfl,rfl,rfl,rfl,rfl,rfl,rfl,rfl,rfl,rfl,trivial⟩,rfl,rfl⟩
            ·refine qa hnt rfl rfl (r_end (q_block (q_then (w_R (qo hnt rfl (s_addN (a := j) (b := 1) rfl rfl (by omega) (by omega) (by omega) ?_))))))
             refine qm hnt rfl rfl (r_end (q_then (⟨(inn || (((decide (e4.space = sv)) && (decide (e4.physical ≤ e1.request.at_ + ((k : Nat) : Int)))) && (decide (e1.request.at_ + ((k : Nat) : Int) < e4.physical + e4.count)))),(j + 1), ?_, ?_,⟨[(0,0),(1,1),(2,2)],by rw [hk]; decide,⟨⟨_,rfl,rfl,rfl⟩,⟨_,rfl,rfl,rfl⟩,⟨_,rfl,rfl,rfl⟩,⟨_,rfl,rfl,rfl⟩,⟨_,rfl,rfl,rfl⟩,⟨_,rfl,rfl,rfl⟩,⟨_,rfl,rfl,rfl⟩,⟨_,rfl,rfl,rfl⟩,⟨_,rfl,rfl,rfl⟩,⟨_,rfl,rfl,rfl⟩,⟨_,rfl,rfl,rfl⟩,⟨_,rfl,rfl,rfl⟩,⟨_,rfl,rfl,rfl⟩,⟨_,rfl,rfl,rfl⟩,⟨_,rfl,rfl,rfl⟩,⟨_,rfl,rfl,rfl⟩,trivial⟩,⟨⟨_,_,rfl,rfl,rfl,rfl⟩,⟨_,_,rfl,rfl,rfl,rfl⟩,⟨_,_,rfl,rfl,rfl,rfl⟩,trivial⟩,by rw [hk]; decide⟩⟩)))
             ·refine ⟨by omega,fun h => ?_⟩
              by_cases hjj : j = j0
              · have h9 : p1.windows[j]? = some w0 := by rw [hjj]; exact hw0
                (have h8 := Option.some.inj (he4.symm.trans h9); subst h8; simp only [Bool.or_eq_true,Bool.and_eq_true,decide_eq_true_eq]; right; omega)
              · (rw [hin (by omega)]; first|rfl|simp)
             · omega
           have c12_ := c12
           try simp only [sB] at c12
           refine w_exit (q_then_exit (q_then_exit (q_block_exit (q_then (w_seq ?_)))))
           refine w_R (qm hnt rfl rfl (qo hnt rfl (s_not rfl ?_)))
           refine r_end (q_then (w_if rfl (fun c13 => ?_) (fun c13 => ?_)))
           ·have c13_ := c13
            exact absurd c13 (by rw [hin (by omega)]; simp)
           have c13_ := c13
           try simp only [sB] at c13
           refine w_skip (q_block (q_then (w_R (qm hnt rfl rfl (qo hnt rfl (s_addN (a := k) (b := 1) rfl rfl (by omega) (by omega) (by omega) ?_))))))
           refine qa hnt rfl rfl (r_end (q_then (⟨(k + 1), ?_, ?_,⟨[(0,0),(1,1),(2,2)],by rw [hk]; decide,⟨⟨_,rfl,rfl,rfl⟩,⟨_,rfl,rfl,rfl⟩,⟨_,rfl,rfl,rfl⟩,⟨_,rfl,rfl,rfl⟩,⟨_,rfl,rfl,rfl⟩,⟨_,rfl,rfl,rfl⟩,⟨_,rfl,rfl,rfl⟩,⟨_,rfl,rfl,rfl⟩,⟨_,rfl,rfl,rfl⟩,⟨_,rfl,rfl,rfl⟩,⟨_,rfl,rfl,rfl⟩,⟨_,rfl,rfl,rfl⟩,trivial⟩,⟨⟨_,_,rfl,rfl,rfl,rfl⟩,⟨_,_,rfl,rfl,rfl,rfl⟩,⟨_,_,rfl,rfl,rfl,rfl⟩,trivial⟩,by rw [hk]; decide⟩⟩)))
           ·omega
           · omega
         have c11_ := c11
         try simp only [sB] at c11
         refine w_exit (q_then_exit (q_then_exit (q_block_exit (q_then (w_seq ?_)))))
         refine w_R (qo hnt rfl (s_fa_ptr tab_50 rfl rfl tab_4 (by decide) rfl ?_))
         refine qo hnt rfl (s_load_ptr1 tab_4 rfl rfl rfl rfl rfl ?_)
         refine r_end (q_then (w_if rfl (fun c14 => ?_) (fun c14 => ?_)))
         ·have c14_ := c14
          try simp only [sB] at c14
          refine w_R (qm hnt rfl rfl (qm hnt rfl rfl (qo hnt rfl (s_addi (r := wr + ((nn : Nat) : Int)) rfl rfl rfl (by omega) ?_))))
          refine qa hnt rfl rfl (r_end (q_block (q_then (w_R (qo hnt rfl (s_addN (a := i) (b := 1) rfl rfl (by omega) (by omega) (by omega) ?_))))))
          refine qm hnt rfl rfl (r_end (q_then (⟨(rd),(wr + ((nn : Nat) : Int)),(i + 1), ?_, ?_,⟨[(0,0),(1,1)],by rw [hk]; decide,⟨⟨_,rfl,rfl,rfl⟩,⟨_,rfl,rfl,rfl⟩,⟨_,rfl,rfl,rfl⟩,⟨_,rfl,rfl,rfl⟩,⟨_,rfl,rfl,rfl⟩,⟨_,rfl,rfl,rfl⟩,⟨_,rfl,rfl,rfl⟩,⟨_,rfl,rfl,rfl⟩,trivial⟩,⟨⟨_,_,rfl,rfl,rfl,rfl⟩,⟨_,_,rfl,rfl,rfl,rfl⟩,trivial⟩,by rw [hk]; decide⟩⟩)))
          ·refine ⟨by omega, ?_, ?_,by omega,by omega,by omega,by omega⟩
           · exact rdS_yes he1 (by assumption) hrd
           · exact wrS_yes he1 (by assumption) hwr hnn
          · omega
         have c14_ := c14
         try simp only [sB] at c14
         refine w_R (qm hnt rfl rfl (qm hnt rfl rfl (qo hnt rfl (s_addi (r := rd + ((nn : Nat) : Int)) rfl rfl rfl (by omega) ?_))))
         refine qa hnt rfl rfl (r_end (q_block (q_then (w_R (qo hnt rfl (s_addN (a := i) (b := 1) rfl rfl (by omega) (by omega) (by omega) ?_))))))
         refine qm hnt rfl rfl (r_end (q_then (⟨(rd + ((nn : Nat) : Int)),(wr),(i + 1), ?_, ?_,⟨[(0,0),(1,1)],by rw [hk]; decide,⟨⟨_,rfl,rfl,rfl⟩,⟨_,rfl,rfl,rfl⟩,⟨_,rfl,rfl,rfl⟩,⟨_,rfl,rfl,rfl⟩,⟨_,rfl,rfl,rfl⟩,⟨_,rfl,rfl,rfl⟩,⟨_,rfl,rfl,rfl⟩,⟨_,rfl,rfl,rfl⟩,trivial⟩,⟨⟨_,_,rfl,rfl,rfl,rfl⟩,⟨_,_,rfl,rfl,rfl,rfl⟩,trivial⟩,by rw [hk]; decide⟩⟩)))
         ·refine ⟨by omega, ?_, ?_,by omega,by omega,by omega,by omega⟩
          · exact rdS_no he1 (by assumption) hrd hnn
          · exact wrS_no he1 (by assumption) hwr
         · omega
     have c2_ := c2
     try simp only [sB] at c2
     refine w_exit (q_then_exit (q_then_exit (q_block_exit (q_then (w_seq ?_)))))
     refine w_seq (w_R (qm hnt rfl rfl (qo hnt rfl (s_neq rfl rfl ?_))))
     refine qm hnt rfl rfl (r_cut0 3 [(8,PV.ptr 1 0),(11,pI rd),(12,pI wr),(156,pB ((!decide (S1.2 = 0)) || (locP q1.fn)))] ?_ ?_)
     ·refine r_if tabOk hnt rfl rfl rfl (fun g12 => ?_) (fun g12 => ?_)
      ·have g12' := g12
       try simp only [sB] at g12'
       refine qo hnt rfl (s_load_ptr tab_37 rfl rfl rfl (Nat.le_of_ble_eq_true rfl) ?_)
       refine ry hnt rfl rfl rfl g12 (qo hnt rfl (s_callF rfl rfl rfl (w_part_Local q1) rfl ?_))
       refine qo hnt rfl (s_pick_f rfl g12 rfl ?_)
       refine r_eq (s := 156) (y := pB ((!decide (S1.2 = 0)) || (locP q1.fn))) rfl (mix_of g12) ?_
       exact r_mid ⟨⟨rfl,rfl,rfl,rfl,trivial⟩,rfl,rfl⟩
      ·have g12' := g12
       try simp only [sB] at g12'
       refine rn hnt rfl rfl rfl g12 (qo hnt rfl (s_pick_t rfl g12 rfl ?_))
       refine r_eq (s := 156) (y := pB ((!decide (S1.2 = 0)) || (locP q1.fn))) rfl (mix_ot _ g12) ?_
       exact r_mid ⟨⟨rfl,rfl,rfl,rfl,trivial⟩,rfl,rfl⟩
     ·refine r_end (q_then (w_if rfl (fun c15 => ?_) (fun c15 => ?_)))
      ·have c15_ := c15
       try simp only [sB] at c15
       refine w_seq (w_R (qo hnt rfl (s_callF rfl rfl rfl (w_burgagelaw14_known) rfl ?_)))
       refine qa hnt rfl rfl (r_end (q_then (w_ret (q_then_ret ?_))))
       exact fin_plain (ret_tmp rfl ret_nil) rfl rfl ⟨rfl,rfl,rfl⟩
      have c15_ := c15
      try simp only [sB] at c15
      refine w_skip (q_then (w_seq (w_seq ?_)))
      have hii : i = S1.1.length := by omega
      rw [hii,List.take_length] at hrd hwr
      have hend := part_sums (F := 16777215) (l := p1.windows) (q := q1) (by rw [← hS9]; assumption)
      rw [← hS9] at hend
      obtain ⟨hn8,hn17,hsR,hsW,hs23,hs22,hs5⟩ := hend
      have hfo := hasF_of (rightR_zero hr1).1
      refine w_R (qo hnt rfl (s_fa_ptr tab_37 rfl rfl tab_3 (by decide) rfl ?_))
      refine qo hnt rfl (s_load_ptr1 tab_3 rfl rfl rfl rfl rfl ?_)
      refine r_end (q_then (w_block (w_seq (w_seq (w_R ?_)))))
      refine qo hnt rfl (s_eql rfl rfl ?_)
      refine qa hnt rfl rfl (r_end (q_then (w_if rfl (fun c16 => ?_) (fun c16 => ?_))))
      ·have c16_ := c16
       try simp only [sB] at c16
       refine w_skip (q_then (w_if rfl (fun _ => ?_) (fun e => absurd (e.symm.trans c16_) (by decide))))
       refine w_seq (w_R (qm hnt rfl rfl (qo hnt rfl (s_fa_ptr tab_37 rfl rfl tab_3 (by decide) rfl ?_))))
       refine qo hnt rfl (s_load_ptr1 tab_3 rfl rfl rfl rfl rfl ?_)
       refine qo hnt rfl (s_eql rfl rfl ?_)
       refine qm hnt rfl rfl (r_if tabOk hnt rfl rfl rfl (fun g13 => ?_) (fun g13 => ?_))
       ·have g13' := g13
        try simp only [sB] at g13'
        refine qm hnt rfl rfl (ry hnt rfl rfl rfl g13 (qo hnt rfl (s_eql rfl rfl ?_)))
        refine qo hnt rfl (s_pick_t rfl g13 rfl ?_)
        refine qm hnt rfl rfl (r_if tabOk hnt rfl rfl rfl (fun g14 => ?_) (fun g14 => ?_))
        ·have g14' := g14
         try simp only [sB] at g14'
         refine qo hnt rfl (s_callF rfl rfl rfl (w_burgagelaw14_known) rfl ?_)
         refine qo hnt rfl (s_pick_t rfl g14 rfl ?_)
         refine qa hnt rfl rfl (r_end (q_then (w_ret (q_block_ret (q_then_ret ?_)))))
         exact fin_plain (ret_tmp rfl ret_nil) rfl rfl ⟨rfl,rfl,rfl⟩
        exact absurd g14 (by exact not_dec3 (by omega))
       exact absurd g13 (by exact not_dec3 (by omega))
      have c16_ := c16
      try simp only [sB] at c16
      refine w_seq (w_R (qo hnt rfl (s_eql rfl rfl ?_)))
      refine qa hnt rfl rfl (r_end (q_then (w_if rfl (fun c17 => ?_) (fun c17 => ?_))))
      ·have c17_ := c17
       try simp only [sB] at c17
       refine w_skip (q_then (w_if rfl (fun _ => ?_) (fun e => absurd (e.symm.trans c17_) (by decide))))
       refine w_seq (w_R (qm hnt rfl rfl (qo hnt rfl (s_fa_ptr tab_37 rfl rfl tab_3 (by decide) rfl ?_))))
       refine qo hnt rfl (s_load_ptr1 tab_3 rfl rfl rfl rfl rfl ?_)
       refine qo hnt rfl (s_eql rfl rfl ?_)
       refine qm hnt rfl rfl (r_if tabOk hnt rfl rfl rfl (fun g15 => ?_) (fun g15 => ?_))
       ·have g15' := g15
        try simp only [sB] at g15'
        refine qm hnt rfl rfl (ry hnt rfl rfl rfl g15 (qo hnt rfl (s_eql rfl rfl ?_)))
        refine qo hnt rfl (s_pick_t rfl g15 rfl ?_)
        refine qm hnt rfl rfl (r_if tabOk hnt rfl rfl rfl (fun g16 => ?_) (fun g16 => ?_))
        ·have g16' := g16
         try simp only [sB] at g16'
         refine qo hnt rfl (s_callF rfl rfl rfl (w_burgagelaw14_known) rfl ?_)
         refine qo hnt rfl (s_pick_t rfl g16 rfl ?_)
         refine qa hnt rfl rfl (r_end (q_then (w_ret (q_block_ret (q_then_ret ?_)))))
         exact fin_plain (ret_tmp rfl ret_nil) rfl rfl ⟨rfl,rfl,rfl⟩
        exact absurd g16 (by exact not_dec3 (by omega))
       exact absurd g15 (by exact not_dec3 (by omega))
      have c17_ := c17
      try simp only [sB] at c17
      refine w_seq (w_R (qo hnt rfl (s_eql rfl rfl ?_)))
      refine qa hnt rfl rfl (r_end (q_then (w_if rfl (fun c18 => ?_) (fun c18 => ?_))))
      ·have c18_ := c18
       try simp only [sB] at c18
       refine w_skip (q_then (w_if rfl (fun _ => ?_) (fun e => absurd (e.symm.trans c18_) (by decide))))
       refine w_seq (w_R (qm hnt rfl rfl (qo hnt rfl (s_fa_ptr tab_37 rfl rfl tab_3 (by decide) rfl ?_))))
       refine qo hnt rfl (s_load_ptr1 tab_3 rfl rfl rfl rfl rfl ?_)
       refine qo hnt rfl (s_eql rfl rfl ?_)
       refine qm hnt rfl rfl (r_if tabOk hnt rfl rfl rfl (fun g17 => ?_) (fun g17 => ?_))
       ·have g17' := g17
        try simp only [sB] at g17'
        refine qm hnt rfl rfl (ry hnt rfl rfl rfl g17 (qo hnt rfl (s_eql rfl rfl ?_)))
        refine qo hnt rfl (s_pick_t rfl g17 rfl ?_)
        refine qm hnt rfl rfl (r_if tabOk hnt rfl rfl rfl (fun g18 => ?_) (fun g18 => ?_))
        ·have g18' := g18
         try simp only [sB] at g18'
         refine qo hnt rfl (s_callF rfl rfl rfl (w_burgagelaw14_known) rfl ?_)
         refine qo hnt rfl (s_pick_t rfl g18 rfl ?_)
         refine qa hnt rfl rfl (r_end (q_then (w_ret (q_block_ret (q_then_ret ?_)))))
         exact fin_plain (ret_tmp rfl ret_nil) rfl rfl ⟨rfl,rfl,rfl⟩
        exact absurd g18 (by exact not_dec3 (by omega))
       exact absurd g17 (by exact not_dec3 (by omega))
      have c18_ := c18
      try simp only [sB] at c18
      refine w_R (qo hnt rfl (s_eql rfl rfl ?_))
      refine qa hnt rfl rfl (r_end (q_then (w_if rfl (fun c19 => ?_) (fun c19 => ?_))))
      ·have c19_ := c19
       try simp only [sB] at c19
       refine w_seq (w_R (qm hnt rfl rfl (qo hnt rfl (s_fa_ptr tab_37 rfl rfl tab_3 (by decide) rfl ?_))))
       refine qo hnt rfl (s_load_ptr1 tab_3 rfl rfl rfl rfl rfl ?_)
       refine qo hnt rfl (s_eql rfl rfl ?_)
       refine qm hnt rfl rfl (r_if tabOk hnt rfl rfl rfl (fun g19 => ?_) (fun g19 => ?_))
       ·have g19' := g19
        try simp only [sB] at g19'
        refine qm hnt rfl rfl (ry hnt rfl rfl rfl g19 (qo hnt rfl (s_eql rfl rfl ?_)))
        refine qo hnt rfl (s_pick_t rfl g19 rfl ?_)
        refine qm hnt rfl rfl (r_if tabOk hnt rfl rfl rfl (fun g20 => ?_) (fun g20 => ?_))
        ·have g20' := g20
         try simp only [sB] at g20'
         refine qo hnt rfl (s_callF rfl rfl rfl (w_burgagelaw14_known) rfl ?_)
         refine qo hnt rfl (s_pick_t rfl g20 rfl ?_)
         refine qa hnt rfl rfl (r_end (q_then (w_ret (q_block_ret (q_then_ret ?_)))))
         exact fin_plain (ret_tmp rfl ret_nil) rfl rfl ⟨rfl,rfl,rfl⟩
        exact absurd g20 (by exact not_dec3 (by omega))
       exact absurd g19 (by exact not_dec3 (by omega))
      have c19_ := c19
      try simp only [sB] at c19
      refine w_seq (w_seq (w_R (qo hnt rfl (s_eql rfl rfl ?_))))
      refine qa hnt rfl rfl (r_end (q_then (w_if rfl (fun c20 => ?_) (fun c20 => ?_))))
      ·have c20_ := c20
       try simp only [sB] at c20
       refine w_skip (q_then (w_if rfl (fun _ => ?_) (fun e => absurd (e.symm.trans c20_) (by decide))))
       refine w_seq (w_R (qm hnt rfl rfl (qo hnt rfl (s_fa_ptr tab_37 rfl rfl tab_3 (by decide) rfl ?_))))
       refine qo hnt rfl (s_load_ptr1 tab_3 rfl rfl rfl rfl rfl ?_)
       refine qo hnt rfl (s_eql rfl rfl ?_)
       refine qm hnt rfl rfl (r_if tabOk hnt rfl rfl rfl (fun g21 => ?_) (fun g21 => ?_))
       ·have g21' := g21
        try simp only [sB] at g21'
        refine qm hnt rfl rfl (ry hnt rfl rfl rfl g21 (qo hnt rfl (s_eql rfl rfl ?_)))
        refine qo hnt rfl (s_pick_t rfl g21 rfl ?_)
        refine qm hnt rfl rfl (r_if tabOk hnt rfl rfl rfl (fun g22 => ?_) (fun g22 => ?_))
        ·have g22' := g22
         try simp only [sB] at g22'
         refine qo hnt rfl (s_callF rfl rfl rfl (w_burgagelaw14_known) rfl ?_)
         refine qo hnt rfl (s_pick_t rfl g22 rfl ?_)
         refine qa hnt rfl rfl (r_end (q_then (w_ret (q_block_ret (q_then_ret ?_)))))
         exact fin_plain (ret_tmp rfl ret_nil) rfl rfl ⟨rfl,rfl,rfl⟩
        exact absurd g22 (by exact not_dec3 (by omega))
       exact absurd g21 (by exact not_dec3 (by omega))
      have c20_ := c20
      try simp only [sB] at c20
      refine w_R (qo hnt rfl (s_eql rfl rfl ?_))
      refine qa hnt rfl rfl (r_end (q_then (w_if rfl (fun c21 => ?_) (fun c21 => ?_))))
      ·have c21_ := c21
       try simp only [sB] at c21
       refine w_seq (w_R (qm hnt rfl rfl (qo hnt rfl (s_fa_ptr tab_37 rfl rfl tab_3 (by decide) rfl ?_))))
       refine qo hnt rfl (s_load_ptr1 tab_3 rfl rfl rfl rfl rfl ?_)
       refine qo hnt rfl (s_eql rfl rfl ?_)
       refine qm hnt rfl rfl (r_if tabOk hnt rfl rfl rfl (fun g23 => ?_) (fun g23 => ?_))
       ·have g23' := g23
        try simp only [sB] at g23'
        refine qm hnt rfl rfl (ry hnt rfl rfl rfl g23 (qo hnt rfl (s_eql rfl rfl ?_)))
        refine qo hnt rfl (s_pick_t rfl g23 rfl ?_)
        refine qm hnt rfl rfl (r_if tabOk hnt rfl rfl rfl (fun g24 => ?_) (fun g24 => ?_))
        ·have g24' := g24
         try simp only [sB] at g24'
         refine qo hnt rfl (s_callF rfl rfl rfl (w_burgagelaw14_known) rfl ?_)
         refine qo hnt rfl (s_pick_t rfl g24 rfl ?_)
         refine qa hnt rfl rfl (r_end (q_then (w_ret (q_block_ret (q_then_ret ?_)))))
         exact fin_plain (ret_tmp rfl ret_nil) rfl rfl ⟨rfl,rfl,rfl⟩
        exact absurd g24 (by exact not_dec3 (by omega))
       exact absurd g23 (by exact not_dec3 (by omega))
      have c21_ := c21
      try simp only [sB] at c21
      refine w_seq (w_R (qo hnt rfl (s_eql rfl rfl ?_)))
      refine qa hnt rfl rfl (r_end (q_then (w_if rfl (fun c22 => ?_) (fun c22 => ?_))))
      ·have c22_ := c22
       try simp only [sB] at c22
       refine w_seq (w_R (qm hnt rfl rfl (qo hnt rfl (s_fa_ptr tab_37 rfl rfl tab_3 (by decide) rfl ?_))))
       refine qo hnt rfl (s_load_ptr1 tab_3 rfl rfl rfl rfl rfl ?_)
       refine qo hnt rfl (s_eql rfl rfl ?_)
       refine qm hnt rfl rfl (r_if tabOk hnt rfl rfl rfl (fun g25 => ?_) (fun g25 => ?_))
       ·have g25' := g25
        try simp only [sB] at g25'
        refine qm hnt rfl rfl (ry hnt rfl rfl rfl g25 (qo hnt rfl (s_fa_ptr tab_37 rfl rfl tab_34 (by decide) rfl ?_)))
        refine ry hnt rfl rfl rfl g25 (qo hnt rfl (s_load_ptr1 tab_34 rfl rfl rfl rfl rfl ?_))
        refine ry hnt rfl rfl rfl g25 (qo hnt rfl (s_lenM (l := q1.vals) tab_34 rfl (hM_sl (f := enc16) rfl) ?_))
        refine ry hnt rfl rfl rfl g25 (qo hnt rfl (s_eql rfl rfl ?_))
        refine qo hnt rfl (s_pick_t rfl g25 rfl ?_)
        refine qm hnt rfl rfl (r_if tabOk hnt rfl rfl rfl (fun g26 => ?_) (fun g26 => ?_))
        ·have g26' := g26
         try simp only [sB] at g26'
         refine qo hnt rfl (s_callF rfl rfl rfl (w_burgagelaw14_known) rfl ?_)
         refine qo hnt rfl (s_pick_t rfl g26 rfl ?_)
         refine qa hnt rfl rfl (r_set [(6,pB true)] [(0,.obj [pI p1.unit,pK .u32 16777215,pI p1.queue,pS 4 false eWindow p1.windows,pS 2 false eSlot p1.slots]),(1,.obj (cRequest q1))] 2 ⟨rfl,trivial⟩ rfl rfl (r_end (q_then (w_ret (q_block_ret ?_)))))
         refine q_then_ret ?_
         exact fin_plain (ret_tmp rfl ret_nil) rfl rfl ⟨rfl,rfl,rfl⟩
        exact absurd g26 (by exact not_dec3 (by omega))
       exact absurd g25 (by exact not_dec3 (by omega))
      have c22_ := c22
      try simp only [sB] at c22
      refine w_seq (w_R (qo hnt rfl (s_eql rfl rfl ?_)))
      refine qa hnt rfl rfl (r_end (q_then (w_if rfl (fun c23 => ?_) (fun c23 => ?_))))
      ·have c23_ := c23
       try simp only [sB] at c23
       refine w_seq (w_R (qm hnt rfl rfl (qo hnt rfl (s_eql rfl rfl ?_))))
       refine qm hnt rfl rfl (r_if tabOk hnt rfl rfl rfl (fun g27 => ?_) (fun g27 => ?_))
       ·have g27' := g27
        try simp only [sB] at g27'
        refine qm hnt rfl rfl (ry hnt rfl rfl rfl g27 (qo hnt rfl (s_eql rfl rfl ?_)))
        refine qo hnt rfl (s_pick_t rfl g27 rfl ?_)
        refine qm hnt rfl rfl (r_if tabOk hnt rfl rfl rfl (fun g28 => ?_) (fun g28 => ?_))
        ·have g28' := g28
         try simp only [sB] at g28'
         refine qo hnt rfl (s_callF rfl rfl rfl (w_burgagelaw14_known) rfl ?_)
         refine qo hnt rfl (s_pick_t rfl g28 rfl ?_)
         refine qa hnt rfl rfl (r_end (q_then (w_ret (q_block_ret (q_then_ret ?_)))))
         exact fin_plain (ret_tmp rfl ret_nil) rfl rfl ⟨rfl,rfl,rfl⟩
        exact absurd g28 (by exact not_dec3 (by omega))
       exact absurd g27 (by exact not_dec3 (by omega))
      have c23_ := c23
      try simp only [sB] at c23
      refine w_skip (q_block (q_then (w_seq (w_R (qm hnt rfl rfl ?_)))))
      refine qo hnt rfl (s_eql rfl rfl ?_)
      refine qm hnt rfl rfl (r_if tabOk hnt rfl rfl rfl (fun g29 => ?_) (fun g29 => ?_))
      ·have g29' := g29
       try simp only [sB] at g29'
       refine qm hnt rfl rfl (ry hnt rfl rfl rfl g29 (qo hnt rfl (s_eql rfl rfl ?_)))
       refine qo hnt rfl (s_pick_t rfl g29 rfl ?_)
       refine qm hnt rfl rfl (r_if tabOk hnt rfl rfl rfl (fun g30 => ?_) (fun g30 => ?_))
       ·have g30' := g30
        try simp only [sB] at g30'
        refine qo hnt rfl (s_callF rfl rfl rfl (w_burgagelaw14_known) rfl ?_)
        refine qo hnt rfl (s_pick_t rfl g30 rfl ?_)
        refine qa hnt rfl rfl (r_end (q_then (w_ret ?_)))
        exact fin_plain (ret_tmp rfl ret_nil) rfl rfl ⟨rfl,rfl,rfl⟩
       exact absurd g30 (by exact not_dec3 (by omega))
      exact absurd g29 (by exact not_dec3 (by omega))
   exact absurd g3 (by rcases hz9 with hz|hz; (simp [hz]); (rw [hz]; simp))
 exact absurd g1 (by rw [hS9,split_code]; simp)
end Go.Proofs.Ytlcmbkkimgdnmaa
