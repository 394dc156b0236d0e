/- What the law JoinFails needs, and no more: merged out of texts of this session by a program of it (wip/tools/prune.py). -/
import Derived.Test.YtlcmbkkimgdnmaaQJoinFails4
set_option linter.unusedVariables false
set_option linter.unusedSimpArgs false
set_option maxRecDepth 10000
set_option maxHeartbeats 1000000
namespace Go.Proofs.Ytlcmbkkimgdnmaa
open Go Go.Proofs.Ytlcmbkkimgdnmaa.Pv
theorem w_burgagelaw15_answers (t : TTenant) (q : TRequest) (u : List Int) (cl_u : Bool) (all : Bool) (ht : t.windows.length ≤ 1000) (hb : q.bits.length ≤ 140737488351232) (hv : q.vals.length ≤ 70368744175616) (hu : u.length ≤ 70000000000000) (hps : ∀ p ∈ (splitP t.functions t.windows q).1,SmallP p) :
    T Try.prog 24 [PV.f (eTenant t),PV.f (eRequest q),pS 1 cl_u encI u,pB all] 0 [] (Ret (PV.ref 0 0 none) 1 [(0,oB true 10 eReply (ansGo u all (splitP t.functions t.windows q).1 0))]) := by
 refine t_fun tabOk (n := 140) (rs := [.tmp 8]) Try.func24 rfl rfl rfl rfl (Nat.le_of_ble_eq_true rfl) ?_
 intro c hnt hk
 refine w_seq (w_R (qo hnt rfl (s_box rfl rfl ?_)))
 refine qo hnt rfl (s_box rfl rfl ?_)
 refine qa hnt rfl rfl (r_set [(2,pS 1 cl_u encI u),(3,pB all),(4,PV.ptr 0 0),(5,PV.ptr 1 0)] [(1,.obj (cRequest q)),(0,.obj (cTenant t))] 2 ⟨rfl,rfl,rfl,rfl,trivial⟩ rfl rfl (r_end (q_then (w_seq (w_R ?_)))))
 refine xm hnt 4 [.o 4] [] [(9,PV.ptr 2 0)] 3 [(2,.obj [pS 1 cl_u encI u,pI 0]),(1,.obj (cRequest q)),(0,.obj (cTenant t))] (r_end (q_then (w_seq (w_R (xp hnt 2 [.o 2] [] [(22,PV.f (eTenant t)),(23,PV.f (eRequest q))] ?_)))))
 obtain ⟨S1,hS1⟩ : ∃ z : List TPart × Int,z = splitP t.functions t.windows q := ⟨_,rfl⟩
 refine qo hnt rfl (s_callF rfl rfl rfl (w_burgageref14_Split t q S1 hS1 (by omega) (by omega) (by omega)) rfl ?_)
 refine xp hnt 5 [.o 5] [] [(10,pS 10 false ePart S1.1)] (r_end (q_then (w_seq ?_)))
 have hs6 := (split_len t.functions t.windows q).1
 rw [← hS1] at hs6
 refine w_R (qa hnt rfl rfl (r_end (q_then (w_seq (w_seq ?_)))))
 refine w_R (qm hnt rfl rfl (qo hnt rfl (s_lenM (l := S1.1) tab_74 rfl (hM_sl (f := ePart) rfl) ?_)))
 refine qm hnt rfl rfl (r_end (q_then (w_block (w_adopt (s := 12) (sz := 10) rfl (w_leO (n := 2) (ds := [pS 1 false encI u,pI 0]) rfl ⟨le_loose,le_refl _,trivial⟩ ?_)))))
 refine loop3 (fun (ap : Nat) (os : List TReply) (i : Nat) => i ≤ S1.1.length ∧ os ++ ansGo u all (S1.1.drop i) ap = ansGo u all S1.1 0 ∧ os.length ≤ i) (fun (ap : Nat) (os : List TReply) (i : Nat) => [(3,pB all),(9,PV.ptr 0 0),(12,PV.ref 1 0 none),(27,pS 10 false ePart S1.1),(28,pN S1.1.length),(29,pN i)]) 2 (fun (ap : Nat) (os : List TReply) (i : Nat) => [(0,.obj [pS 1 false encI u,pN ap]),(1,oB true 10 eReply os)]) (fun (ap : Nat) (os : List TReply) (i : Nat) => S1.1.length - i) (0) (([] : List TReply)) (0) ?_ ⟨[(0,2),(1,3)],by rw [hk]; decide,⟨⟨_,rfl,rfl,rfl⟩,⟨_,rfl,rfl,rfl⟩,⟨_,rfl,rfl,rfl⟩,⟨_,rfl,rfl,rfl⟩,⟨_,rfl,rfl,rfl⟩,⟨_,rfl,rfl,rfl⟩,trivial⟩,⟨⟨_,_,rfl,rfl,rfl,rfl⟩,⟨_,_,rfl,rfl,rfl,rfl⟩,trivial⟩,by rw [hk]; decide⟩ ?_
 · exact ⟨by omega,by simp,by simp⟩
 ·intro ap os i hI
  obtain ⟨hi,hgo,hol⟩ := hI
  refine w_seq (w_R (qo hnt rfl (s_lss rfl rfl ?_)))
  refine r_end (q_then (w_seq (w_if rfl (fun c1 => ?_) (fun c1 => ?_))))
  ·try simp only [sB] at c1
   refine w_skip (q_then (w_seq (w_block (w_seq (w_R ?_)))))
   obtain ⟨e1,he1⟩ := get_of_lt S1.1 (i := i) (by omega)
   refine qo hnt rfl (s_iaM (q := i) (b := e1) (f := ePart) tab_74 rfl tab_77 rfl rfl (by omega) rfl he1 ?_)
   refine xm hnt 3 [.o 3] [] [(14,PV.ptr 2 0)] 3 [(2,.obj (cPart e1)),(0,.obj [pS 1 false encI u,pN ap]),(1,oB true 10 eReply os)] (r_end (q_then (w_seq ?_)))
   have hpf := part_in (F := t.functions) (l := t.windows) (q := q) (x := e1) (by rw [← hS1]; exact List.mem_of_getElem? he1)
   obtain ⟨hp1,hp2,hp3,hp4,hp5,_⟩ := hpf
   obtain ⟨hs1,hs2,hs3⟩ := hps e1 (by rw [← hS1]; exact List.mem_of_getElem? he1)
   obtain ⟨⟨rb,ab⟩,hrb⟩ : ∃ z,z = baseJ u e1 ap := ⟨_,rfl⟩
   have hbs := base_small (L := u) (hps e1 (by rw [← hS1]; exact List.mem_of_getElem? he1)) ap
   have hba := base_at (L := u) (p := e1) (a := ap)
   rw [← hrb] at hbs hba
   simp only at hbs hba
   refine w_R (xm hnt 6 [.o 6] [] [(15,PV.ptr 3 0)] 4 [(3,.obj [pI e1.request.fn,pI 0,pI 0,pI 0,pI 0,pNil,pNil,p16 0,p16 0,pNil]),(2,.obj (cPart e1)),(0,.obj [pS 1 false encI u,pN ap]),(1,oB true 10 eReply os)] (r_end (q_then (join1 (fun (ac : Nat) => ac = ab) (fun (ac : Nat) => [(3,pB all),(9,PV.ptr 0 0),(12,PV.ref 2 0 none),(15,PV.ptr 1 0),(27,pS 10 false ePart S1.1),(28,pN S1.1.length),(29,pN i)]) 3 (fun (ac : Nat) => [(0,.obj [pS 1 false encI u,pN ac]),(1,.obj (cReply rb)),(2,oB true 10 eReply os)]) ?_ ?_))))
   ·refine w_seq (w_R (xp hnt 2 [.o 2] [] [(38,pI e1.request.fn)] (r_end (q_then (w_block ?_)))))
    refine join1 (fun (bb1 : Bool) => bb1 = ((decide (e1.request.fn = 1)) || (decide (e1.request.fn = 2)))) (fun (bb1 : Bool) => [(3,pB all),(9,PV.ptr 0 0),(12,PV.ref 1 0 none),(14,PV.ptr 2 0),(15,PV.ptr 3 0),(27,pS 10 false ePart S1.1),(28,pN S1.1.length),(29,pN i),(38,pI e1.request.fn),(47,pB bb1)]) 4 (fun (bb1 : Bool) => [(0,.obj [pS 1 false encI u,pN ap]),(1,oB true 10 eReply os),(2,.obj (cPart e1)),(3,.obj [pI e1.request.fn,pI 0,pI 0,pI 0,pI 0,pNil,pNil,p16 0,p16 0,pNil])]) ?_ ?_
    ·refine w_seq (w_R (qo hnt rfl (s_eql rfl rfl ?_)))
     refine qa hnt rfl rfl (r_end (q_then (w_if rfl (fun c2 => ?_) (fun c2 => ?_))))
     ·have c2_ := c2
      try simp only [sB] at c2
      refine w_skip (q_then (⟨(decide (e1.request.fn = 1)), ?_,⟨[(0,0),(1,1),(2,2),(3,3)],by rw [hk]; decide,⟨⟨_,rfl,rfl,rfl⟩,⟨_,rfl,rfl,rfl⟩,⟨_,rfl,rfl,rfl⟩,⟨_,rfl,rfl,rfl⟩,⟨_,rfl,rfl,rfl⟩,⟨_,rfl,rfl,rfl⟩,⟨_,rfl,rfl,rfl⟩,⟨_,rfl,rfl,rfl⟩,⟨_,rfl,rfl,rfl⟩,⟨_,rfl,rfl,rfl⟩,trivial⟩,⟨⟨_,_,rfl,rfl,rfl,rfl⟩,⟨_,_,rfl,rfl,rfl,rfl⟩,⟨_,_,rfl,rfl,rfl,rfl⟩,⟨_,_,rfl,rfl,rfl,rfl⟩,trivial⟩,by rw [hk]; decide⟩⟩))
      simp only [c2_,Bool.true_or,Bool.false_or]
     have c2_ := c2
     try simp only [sB] at c2
     refine w_R (qo hnt rfl (s_eql rfl rfl ?_))
     refine qa hnt rfl rfl (r_end (q_then (⟨(decide (e1.request.fn = 2)), ?_,⟨[(0,0),(1,1),(2,2),(3,3)],by rw [hk]; decide,⟨⟨_,rfl,rfl,rfl⟩,⟨_,rfl,rfl,rfl⟩,⟨_,rfl,rfl,rfl⟩,⟨_,rfl,rfl,rfl⟩,⟨_,rfl,rfl,rfl⟩,⟨_,rfl,rfl,rfl⟩,⟨_,rfl,rfl,rfl⟩,⟨_,rfl,rfl,rfl⟩,⟨_,rfl,rfl,rfl⟩,⟨_,rfl,rfl,rfl⟩,trivial⟩,⟨⟨_,_,rfl,rfl,rfl,rfl⟩,⟨_,_,rfl,rfl,rfl,rfl⟩,⟨_,_,rfl,rfl,rfl,rfl⟩,⟨_,_,rfl,rfl,rfl,rfl⟩,trivial⟩,by rw [hk]; decide⟩⟩)))
     simp only [c2_,Bool.true_or,Bool.false_or]
    intro bb1 hbb1
    subst hbb1
    refine w_if rfl (fun c3 => ?_) (fun c3 => ?_)
    ·try simp only [sB,Bool.or_eq_true,Bool.or_eq_false_iff] at c3
     refine w_seq (w_R (qa hnt rfl rfl (r_end (q_then (w_block ?_)))))
     refine w_adoptC (n := 3) (j := 5) (sz := 1) rfl rfl rfl (loop3 (fun (a2 : Nat) (bo : List Bool) (j : Nat) => (j : Int) ≤ e1.request.count ∧ bo = (tRow isOne 2 u ap j).1 ∧ a2 = (tRow isOne 2 u ap j).2) (fun (a2 : Nat) (bo : List Bool) (j : Nat) => [(3,pB all),(9,PV.ptr 0 0),(12,PV.ref 3 0 none),(14,PV.ptr 4 0),(15,PV.ptr 1 0),(16,pN j),(27,pS 10 false ePart S1.1),(28,pN S1.1.length),(29,pN i)]) 5 (fun (a2 : Nat) (bo : List Bool) (j : Nat) => [(0,.obj [pS 1 false encI u,pN a2]),(1,.obj [pI e1.request.fn,pI 0,pI 0,pI 0,pI 0,PV.ref 2 0 none,pNil,p16 0,p16 0,pNil]),(2,oB true 1 encBo bo),(3,oB true 10 eReply os),(4,.obj (cPart e1))]) (fun (a2 : Nat) (bo : List Bool) (j : Nat) => e1.request.count.toNat - j) (ap) (([] : List Bool)) (0) ?_ ⟨[(0,0),(1,3),(2,4),(3,1),(4,2)],by rw [hk]; decide,⟨⟨_,rfl,rfl,rfl⟩,⟨_,rfl,rfl,rfl⟩,⟨_,rfl,rfl,rfl⟩,⟨_,rfl,rfl,rfl⟩,⟨_,rfl,rfl,rfl⟩,⟨_,rfl,rfl,rfl⟩,⟨_,rfl,rfl,rfl⟩,⟨_,rfl,rfl,rfl⟩,⟨_,rfl,rfl,rfl⟩,trivial⟩,⟨⟨_,_,rfl,rfl,rfl,rfl⟩,⟨_,_,rfl,rfl,rfl,rfl⟩,⟨_,_,rfl,rfl,rfl,rfl⟩,⟨_,_,rfl,rfl,rfl,rfl⟩,⟨_,_,rfl,rfl,rfl,rfl⟩,trivial⟩,by rw [hk]; decide⟩ ?_)
     · exact ⟨by omega,rfl,rfl⟩
     ·intro a2 bo j hJ
      obtain ⟨hj,hbo,ha2⟩ := hJ
      have hbol : bo.length = j := by rw [hbo,tRow_length]
      refine w_seq (w_seq (w_R (xp hnt 5 [.o 5] [] [(54,pB (decide (((j : Nat) : Int) < e1.request.count)))] (r_end (q_then ?_)))))
      refine w_if rfl (fun c4 => ?_) (fun c4 => ?_)
      ·try simp only [sB] at c4
       refine w_skip (q_then (w_seq (w_block (wdr hnt (xq 3 [.o 3] [] ?_)))))
       refine xk [(59,PV.ptr 0 0)] [] [(0,.obj [pS 1 false encI u,pN a2])] [(0,.obj [pS 1 false encI u,pN (tStep u a2 2)])] [(0,.obj [pS 1 false encI u,pN (tStep u a2 2)]),(1,.obj [pI e1.request.fn,pI 0,pI 0,pI 0,pI 0,PV.ref 2 0 none,pNil,p16 0,p16 0,pNil]),(2,oB true 1 encBo bo),(3,oB true 10 eReply os),(4,.obj (cPart e1))] (s_callK 5 (pI (tNext u a2 2)) _ [0] (w_burgagekeep_Tape_Next u false a2 2 (by omega) (by omega)) ⟨rfl,rfl,rfl⟩) (xq 1 [.o 1] [] (xk [(61,pB (decide (tNext u a2 2 = 1)))] [] [] [(5,oB true 1 encBo [decide (tNext u a2 2 = 1)])] [(5,oB true 1 encBo [decide (tNext u a2 2 = 1)]),(0,.obj [pS 1 false encI u,pN (tStep u a2 2)]),(1,.obj [pI e1.request.fn,pI 0,pI 0,pI 0,pI 0,PV.ref 2 0 none,pNil,p16 0,p16 0,pNil]),(2,oB true 1 encBo bo),(3,oB true 10 eReply os),(4,.obj (cPart e1))] (s_mkM (f := encBo) [decide (tNext u a2 2 = 1)] tab_33 rfl tab_4 ⟨rfl,by decide⟩ (by decide) rfl rfl rfl rfl ⟨rfl,rfl,rfl⟩) (xk [(58,PV.ref 2 0 none),(62,PV.ref 5 0 none)] [(5,oB true 1 encBo [decide (tNext u a2 2 = 1)])] [(2,oB true 1 encBo bo)] [(6,oB true 1 encBo (bo ++ [decide (tNext u a2 2 = 1)])),(5,oB true 1 encBo [decide (tNext u a2 2 = 1)])] [(6,oB true 1 encBo (bo ++ [decide (tNext u a2 2 = 1)])),(5,oB true 1 encBo [decide (tNext u a2 2 = 1)]),(0,.obj [pS 1 false encI u,pN (tStep u a2 2)]),(1,.obj [pI e1.request.fn,pI 0,pI 0,pI 0,pI 0,PV.ref 2 0 none,pNil,p16 0,p16 0,pNil]),(3,oB true 10 eReply os),(4,.obj (cPart e1))] (s_appR0 (f := encBo) (l := bo) (xs := [decide (tNext u a2 2 = 1)]) tab_33 rfl tab_4 ⟨rfl,by decide,by decide⟩ (srcM tab_33 rfl (hM_ref0 (f := encBo) rfl rfl)) rfl rfl (by (simp; omega)) ⟨rfl,rfl,rfl⟩) ?_ (hs := ⟨rfl,trivial⟩))))
       refine xd 2 [.o 2] [] 7 [(1,.obj [pI e1.request.fn,pI 0,pI 0,pI 0,pI 0,PV.ref 6 0 none,pNil,p16 0,p16 0,pNil]),(6,oB true 1 encBo (bo ++ [decide (tNext u a2 2 = 1)])),(5,oB true 1 encBo [decide (tNext u a2 2 = 1)]),(0,.obj [pS 1 false encI u,pN (tStep u a2 2)]),(3,oB true 10 eReply os),(4,.obj (cPart e1))] (xe [(3,pB all),(9,PV.ptr 0 0),(12,PV.ref 3 0 none),(14,PV.ptr 4 0),(15,PV.ptr 1 0),(16,pN j),(27,pS 10 false ePart S1.1),(28,pN S1.1.length),(29,pN i)] (r_end (q_block (q_then (w_R ?_)))))
       refine qm hnt rfl rfl (qo hnt rfl (s_addN (a := j) (b := 1) rfl rfl (by omega) (by omega) (by omega) ?_))
       refine qa hnt rfl rfl (r_end (q_then (⟨(tStep u a2 2),(bo ++ [decide (tNext u a2 2 = 1)]),(j + 1), ?_, ?_,⟨[(0,0),(1,1),(2,6),(3,3),(4,4)],by rw [hk]; decide,⟨⟨_,rfl,rfl,rfl⟩,⟨_,rfl,rfl,rfl⟩,⟨_,rfl,rfl,rfl⟩,⟨_,rfl,rfl,rfl⟩,⟨_,rfl,rfl,rfl⟩,⟨_,rfl,rfl,rfl⟩,⟨_,rfl,rfl,rfl⟩,⟨_,rfl,rfl,rfl⟩,⟨_,rfl,rfl,rfl⟩,trivial⟩,⟨⟨_,_,rfl,rfl,rfl,rfl⟩,⟨_,_,rfl,rfl,rfl,rfl⟩,⟨_,_,rfl,rfl,rfl,rfl⟩,⟨_,_,rfl,rfl,rfl,rfl⟩,⟨_,_,rfl,rfl,rfl,rfl⟩,trivial⟩,by rw [hk]; decide⟩⟩)))
       ·exact ⟨by omega,tRow_1 isOne 2 u _ j hbo ha2,tRow_2 isOne 2 u _ j ha2⟩
       · omega
      try simp only [sB] at c4
      refine w_frzC (n := 1) (j := 5) rfl rfl rfl rfl ?_
      have hz1 : bo = rb.bits := by ((rw [(Prod.mk.inj (hrb.trans (base_1 (by omega)))).1]; rw [hbo,show e1.request.count.toNat = j by omega]))
      refine w_leO (n := 1) (ds := [pI e1.request.fn,pI 0,pI 0,pI 0,pI 0,pS 1 false encBo rb.bits,pNil,p16 0,p16 0,pNil]) rfl ⟨le_refl _,le_refl _,le_refl _,le_refl _,le_refl _,le_of_eq (congrArg (fun z => pS 1 false encBo z) hz1),le_refl _,le_refl _,le_refl _,le_refl _,trivial⟩ ?_
      have hz2 : e1.request.fn = rb.fn ∧ 0 = rb.code ∧ 0 = rb.at_ ∧ 0 = rb.count ∧ 0 = rb.sub ∧ ([] : List UInt16) = rb.vals ∧ 0 = rb.and_ ∧ 0 = rb.or_ ∧ ([] : List UInt8) = rb.data := by and_intros <;> ((rw [(Prod.mk.inj (hrb.trans (base_1 (by omega)))).1]; done))
      refine w_leO (n := 1) (ds := cReply rb) rfl ⟨le_of_eq (congrArg pI hz2.1),le_of_eq (congrArg pI hz2.2.1),le_of_eq (congrArg pI hz2.2.2.1),le_of_eq (congrArg pI hz2.2.2.2.1),le_of_eq (congrArg pI hz2.2.2.2.2.1),le_refl _,le_tr (le_nilS 1 false) (le_of_eq (congrArg (fun z => pS 1 false enc16 z) hz2.2.2.2.2.2.1)),le_of_eq (congrArg p16 hz2.2.2.2.2.2.2.1),le_of_eq (congrArg p16 hz2.2.2.2.2.2.2.2.1),le_tr (le_nilS 1 false) (le_of_eq (congrArg (fun z => pS 1 false enc8 z) hz2.2.2.2.2.2.2.2.2)),trivial⟩ (w_exit (q_then_exit (q_then_exit (q_block_exit (q_block ?_)))))
      refine q_then (⟨(a2), ?_,⟨[(0,0),(1,1),(2,3)],by rw [hk]; decide,⟨⟨_,rfl,rfl,rfl⟩,⟨_,rfl,rfl,rfl⟩,⟨_,rfl,rfl,rfl⟩,⟨_,rfl,rfl,rfl⟩,⟨_,rfl,rfl,rfl⟩,⟨_,rfl,rfl,rfl⟩,⟨_,rfl,rfl,rfl⟩,trivial⟩,⟨⟨_,_,rfl,rfl,rfl,rfl⟩,⟨_,_,rfl,rfl,rfl,rfl⟩,⟨_,_,rfl,rfl,rfl,rfl⟩,trivial⟩,by rw [hk]; decide⟩⟩)
      (rw [(Prod.mk.inj (hrb.trans (base_1 (by omega)))).2]; rw [ha2,show e1.request.count.toNat = j by omega])
    try simp only [sB,Bool.or_eq_true,Bool.or_eq_false_iff] at c3
    refine join1 (fun (bb2 : Bool) => bb2 = ((decide (e1.request.fn = 3)) || (decide (e1.request.fn = 4)))) (fun (bb2 : Bool) => [(3,pB all),(9,PV.ptr 0 0),(12,PV.ref 1 0 none),(14,PV.ptr 2 0),(15,PV.ptr 3 0),(27,pS 10 false ePart S1.1),(28,pN S1.1.length),(29,pN i),(38,pI e1.request.fn),(65,pB bb2)]) 4 (fun (bb2 : Bool) => [(0,.obj [pS 1 false encI u,pN ap]),(1,oB true 10 eReply os),(2,.obj (cPart e1)),(3,.obj [pI e1.request.fn,pI 0,pI 0,pI 0,pI 0,pNil,pNil,p16 0,p16 0,pNil])]) ?_ ?_
    ·refine w_seq (w_R (qo hnt rfl (s_eql rfl rfl ?_)))
     refine qa hnt rfl rfl (r_end (q_then (w_if rfl (fun c5 => ?_) (fun c5 => ?_))))
     ·have c5_ := c5
      try simp only [sB] at c5
      refine w_skip (q_then (⟨(decide (e1.request.fn = 3)), ?_,⟨[(0,0),(1,1),(2,2),(3,3)],by rw [hk]; decide,⟨⟨_,rfl,rfl,rfl⟩,⟨_,rfl,rfl,rfl⟩,⟨_,rfl,rfl,rfl⟩,⟨_,rfl,rfl,rfl⟩,⟨_,rfl,rfl,rfl⟩,⟨_,rfl,rfl,rfl⟩,⟨_,rfl,rfl,rfl⟩,⟨_,rfl,rfl,rfl⟩,⟨_,rfl,rfl,rfl⟩,⟨_,rfl,rfl,rfl⟩,trivial⟩,⟨⟨_,_,rfl,rfl,rfl,rfl⟩,⟨_,_,rfl,rfl,rfl,rfl⟩,⟨_,_,rfl,rfl,rfl,rfl⟩,⟨_,_,rfl,rfl,rfl,rfl⟩,trivial⟩,by rw [hk]; decide⟩⟩))
      simp only [c5_,Bool.true_or,Bool.false_or]
     have c5_ := c5
     try simp only [sB] at c5
     refine w_R (qo hnt rfl (s_eql rfl rfl ?_))
     refine qa hnt rfl rfl (r_end (q_then (⟨(decide (e1.request.fn = 4)), ?_,⟨[(0,0),(1,1),(2,2),(3,3)],by rw [hk]; decide,⟨⟨_,rfl,rfl,rfl⟩,⟨_,rfl,rfl,rfl⟩,⟨_,rfl,rfl,rfl⟩,⟨_,rfl,rfl,rfl⟩,⟨_,rfl,rfl,rfl⟩,⟨_,rfl,rfl,rfl⟩,⟨_,rfl,rfl,rfl⟩,⟨_,rfl,rfl,rfl⟩,⟨_,rfl,rfl,rfl⟩,⟨_,rfl,rfl,rfl⟩,trivial⟩,⟨⟨_,_,rfl,rfl,rfl,rfl⟩,⟨_,_,rfl,rfl,rfl,rfl⟩,⟨_,_,rfl,rfl,rfl,rfl⟩,⟨_,_,rfl,rfl,rfl,rfl⟩,trivial⟩,by rw [hk]; decide⟩⟩)))
     simp only [c5_,Bool.true_or,Bool.false_or]
    intro bb2 hbb2
    subst hbb2
    refine w_if rfl (fun c6 => ?_) (fun c6 => ?_)
    ·try simp only [sB,Bool.or_eq_true,Bool.or_eq_false_iff] at c6
     refine w_seq (w_R (qa hnt rfl rfl (r_end (q_then (w_block ?_)))))
     refine w_adoptC (n := 3) (j := 6) (sz := 1) rfl rfl rfl (loop3 (fun (a2 : Nat) (bo : List UInt16) (j : Nat) => (j : Int) ≤ e1.request.count ∧ bo = (tRow u16I 65536 u ap j).1 ∧ a2 = (tRow u16I 65536 u ap j).2) (fun (a2 : Nat) (bo : List UInt16) (j : Nat) => [(3,pB all),(9,PV.ptr 0 0),(12,PV.ref 3 0 none),(14,PV.ptr 4 0),(15,PV.ptr 1 0),(17,pN j),(27,pS 10 false ePart S1.1),(28,pN S1.1.length),(29,pN i)]) 5 (fun (a2 : Nat) (bo : List UInt16) (j : Nat) => [(0,.obj [pS 1 false encI u,pN a2]),(1,.obj [pI e1.request.fn,pI 0,pI 0,pI 0,pI 0,pNil,PV.ref 2 0 none,p16 0,p16 0,pNil]),(2,oB true 1 enc16 bo),(3,oB true 10 eReply os),(4,.obj (cPart e1))]) (fun (a2 : Nat) (bo : List UInt16) (j : Nat) => e1.request.count.toNat - j) (ap) (([] : List UInt16)) (0) ?_ ⟨[(0,0),(1,3),(2,4),(3,1),(4,2)],by rw [hk]; decide,⟨⟨_,rfl,rfl,rfl⟩,⟨_,rfl,rfl,rfl⟩,⟨_,rfl,rfl,rfl⟩,⟨_,rfl,rfl,rfl⟩,⟨_,rfl,rfl,rfl⟩,⟨_,rfl,rfl,rfl⟩,⟨_,rfl,rfl,rfl⟩,⟨_,rfl,rfl,rfl⟩,⟨_,rfl,rfl,rfl⟩,trivial⟩,⟨⟨_,_,rfl,rfl,rfl,rfl⟩,⟨_,_,rfl,rfl,rfl,rfl⟩,⟨_,_,rfl,rfl,rfl,rfl⟩,⟨_,_,rfl,rfl,rfl,rfl⟩,⟨_,_,rfl,rfl,rfl,rfl⟩,trivial⟩,by rw [hk]; decide⟩ ?_)
     · exact ⟨by omega,rfl,rfl⟩
     ·intro a2 bo j hJ
      obtain ⟨hj,hbo,ha2⟩ := hJ
      have hbol : bo.length = j := by rw [hbo,tRow_length]
      refine w_seq (w_seq (w_R (xp hnt 5 [.o 5] [] [(72,pB (decide (((j : Nat) : Int) < e1.request.count)))] (r_end (q_then ?_)))))
      refine w_if rfl (fun c7 => ?_) (fun c7 => ?_)
      ·try simp only [sB] at c7
       refine w_skip (q_then (w_seq (w_block (wdr hnt (xq 3 [.o 3] [] ?_)))))
       refine xk [(77,PV.ptr 0 0)] [] [(0,.obj [pS 1 false encI u,pN a2])] [(0,.obj [pS 1 false encI u,pN (tStep u a2 65536)])] [(0,.obj [pS 1 false encI u,pN (tStep u a2 65536)]),(1,.obj [pI e1.request.fn,pI 0,pI 0,pI 0,pI 0,pNil,PV.ref 2 0 none,p16 0,p16 0,pNil]),(2,oB true 1 enc16 bo),(3,oB true 10 eReply os),(4,.obj (cPart e1))] (s_callK 5 (pI (tNext u a2 65536)) _ [0] (w_burgagekeep_Tape_Next u false a2 65536 (by omega) (by omega)) ⟨rfl,rfl,rfl⟩) (xk [(78,pI (tNext u a2 65536))] [] [] [] [(0,.obj [pS 1 false encI u,pN (tStep u a2 65536)]),(1,.obj [pI e1.request.fn,pI 0,pI 0,pI 0,pI 0,pNil,PV.ref 2 0 none,p16 0,p16 0,pNil]),(2,oB true 1 enc16 bo),(3,oB true 10 eReply os),(4,.obj (cPart e1))] (s_cv16 tab_3 tab_35 rfl rfl rfl ⟨rfl,rfl,rfl⟩) (xk [(79,p16 (u16I (tNext u a2 65536)))] [] [] [(5,oB true 1 enc16 [u16I (tNext u a2 65536)])] [(5,oB true 1 enc16 [u16I (tNext u a2 65536)]),(0,.obj [pS 1 false encI u,pN (tStep u a2 65536)]),(1,.obj [pI e1.request.fn,pI 0,pI 0,pI 0,pI 0,pNil,PV.ref 2 0 none,p16 0,p16 0,pNil]),(2,oB true 1 enc16 bo),(3,oB true 10 eReply os),(4,.obj (cPart e1))] (s_mkM (f := enc16) [u16I (tNext u a2 65536)] tab_34 rfl tab_35 ⟨rfl,by decide⟩ (by decide) rfl rfl rfl rfl ⟨rfl,rfl,rfl⟩) (xk [(76,PV.ref 2 0 none),(80,PV.ref 5 0 none)] [(5,oB true 1 enc16 [u16I (tNext u a2 65536)])] [(2,oB true 1 enc16 bo)] [(6,oB true 1 enc16 (bo ++ [u16I (tNext u a2 65536)])),(5,oB true 1 enc16 [u16I (tNext u a2 65536)])] [(6,oB true 1 enc16 (bo ++ [u16I (tNext u a2 65536)])),(5,oB true 1 enc16 [u16I (tNext u a2 65536)]),(0,.obj [pS 1 false encI u,pN (tStep u a2 65536)]),(1,.obj [pI e1.request.fn,pI 0,pI 0,pI 0,pI 0,pNil,PV.ref 2 0 none,p16 0,p16 0,pNil]),(3,oB true 10 eReply os),(4,.obj (cPart e1))] (s_appR0 (f := enc16) (l := bo) (xs := [u16I (tNext u a2 65536)]) tab_34 rfl tab_35 ⟨rfl,by decide,by decide⟩ (srcM tab_34 rfl (hM_ref0 (f := enc16) rfl rfl)) rfl rfl (by (simp; omega)) ⟨rfl,rfl,rfl⟩) ?_ (hs := ⟨rfl,trivial⟩))))
       refine xd 2 [.o 2] [] 7 [(1,.obj [pI e1.request.fn,pI 0,pI 0,pI 0,pI 0,pNil,PV.ref 6 0 none,p16 0,p16 0,pNil]),(6,oB true 1 enc16 (bo ++ [u16I (tNext u a2 65536)])),(5,oB true 1 enc16 [u16I (tNext u a2 65536)]),(0,.obj [pS 1 false encI u,pN (tStep u a2 65536)]),(3,oB true 10 eReply os),(4,.obj (cPart e1))] (xe [(3,pB all),(9,PV.ptr 0 0),(12,PV.ref 3 0 none),(14,PV.ptr 4 0),(15,PV.ptr 1 0),(17,pN j),(27,pS 10 false ePart S1.1),(28,pN S1.1.length),(29,pN i)] (r_end (q_block (q_then (w_R ?_)))))
       refine qm hnt rfl rfl (qo hnt rfl (s_addN (a := j) (b := 1) rfl rfl (by omega) (by omega) (by omega) ?_))
       refine qa hnt rfl rfl (r_end (q_then (⟨(tStep u a2 65536),(bo ++ [u16I (tNext u a2 65536)]),(j + 1), ?_, ?_,⟨[(0,0),(1,1),(2,6),(3,3),(4,4)],by rw [hk]; decide,⟨⟨_,rfl,rfl,rfl⟩,⟨_,rfl,rfl,rfl⟩,⟨_,rfl,rfl,rfl⟩,⟨_,rfl,rfl,rfl⟩,⟨_,rfl,rfl,rfl⟩,⟨_,rfl,rfl,rfl⟩,⟨_,rfl,rfl,rfl⟩,⟨_,rfl,rfl,rfl⟩,⟨_,rfl,rfl,rfl⟩,trivial⟩,⟨⟨_,_,rfl,rfl,rfl,rfl⟩,⟨_,_,rfl,rfl,rfl,rfl⟩,⟨_,_,rfl,rfl,rfl,rfl⟩,⟨_,_,rfl,rfl,rfl,rfl⟩,⟨_,_,rfl,rfl,rfl,rfl⟩,trivial⟩,by rw [hk]; decide⟩⟩)))
       ·exact ⟨by omega,tRow_1 u16I 65536 u _ j hbo ha2,tRow_2 u16I 65536 u _ j ha2⟩
       · omega
      try simp only [sB] at c7
      refine w_frzC (n := 1) (j := 6) rfl rfl rfl rfl ?_
      have hz3 : bo = rb.vals := by ((rw [(Prod.mk.inj (hrb.trans (base_3 (by omega)))).1]; rw [hbo,show e1.request.count.toNat = j by omega]))
      refine w_leO (n := 1) (ds := [pI e1.request.fn,pI 0,pI 0,pI 0,pI 0,pNil,pS 1 false enc16 rb.vals,p16 0,p16 0,pNil]) rfl ⟨le_refl _,le_refl _,le_refl _,le_refl _,le_refl _,le_refl _,le_of_eq (congrArg (fun z => pS 1 false enc16 z) hz3),le_refl _,le_refl _,le_refl _,trivial⟩ ?_
      have hz4 : e1.request.fn = rb.fn ∧ 0 = rb.code ∧ 0 = rb.at_ ∧ 0 = rb.count ∧ 0 = rb.sub ∧ ([] : List Bool) = rb.bits ∧ 0 = rb.and_ ∧ 0 = rb.or_ ∧ ([] : List UInt8) = rb.data := by and_intros <;> ((rw [(Prod.mk.inj (hrb.trans (base_3 (by omega)))).1]; done))
      refine w_leO (n := 1) (ds := cReply rb) rfl ⟨le_of_eq (congrArg pI hz4.1),le_of_eq (congrArg pI hz4.2.1),le_of_eq (congrArg pI hz4.2.2.1),le_of_eq (congrArg pI hz4.2.2.2.1),le_of_eq (congrArg pI hz4.2.2.2.2.1),le_tr (le_nilS 1 false) (le_of_eq (congrArg (fun z => pS 1 false encBo z) hz4.2.2.2.2.2.1)),le_refl _,le_of_eq (congrArg p16 hz4.2.2.2.2.2.2.1),le_of_eq (congrArg p16 hz4.2.2.2.2.2.2.2.1),le_tr (le_nilS 1 false) (le_of_eq (congrArg (fun z => pS 1 false enc8 z) hz4.2.2.2.2.2.2.2.2)),trivial⟩ (w_exit (q_then_exit (q_then_exit (q_block_exit (q_block ?_)))))
      refine q_then (⟨(a2), ?_,⟨[(0,0),(1,1),(2,3)],by rw [hk]; decide,⟨⟨_,rfl,rfl,rfl⟩,⟨_,rfl,rfl,rfl⟩,⟨_,rfl,rfl,rfl⟩,⟨_,rfl,rfl,rfl⟩,⟨_,rfl,rfl,rfl⟩,⟨_,rfl,rfl,rfl⟩,⟨_,rfl,rfl,rfl⟩,trivial⟩,⟨⟨_,_,rfl,rfl,rfl,rfl⟩,⟨_,_,rfl,rfl,rfl,rfl⟩,⟨_,_,rfl,rfl,rfl,rfl⟩,trivial⟩,by rw [hk]; decide⟩⟩)
      (rw [(Prod.mk.inj (hrb.trans (base_3 (by omega)))).2]; rw [ha2,show e1.request.count.toNat = j by omega])
    try simp only [sB,Bool.or_eq_true,Bool.or_eq_false_iff] at c6
    refine join1 (fun (bb3 : Bool) => bb3 = ((decide (e1.request.fn = 5)) || (decide (e1.request.fn = 6)))) (fun (bb3 : Bool) => [(3,pB all),(9,PV.ptr 0 0),(12,PV.ref 1 0 none),(14,PV.ptr 2 0),(15,PV.ptr 3 0),(27,pS 10 false ePart S1.1),(28,pN S1.1.length),(29,pN i),(83,pB bb3)]) 4 (fun (bb3 : Bool) => [(0,.obj [pS 1 false encI u,pN ap]),(1,oB true 10 eReply os),(2,.obj (cPart e1)),(3,.obj [pI e1.request.fn,pI 0,pI 0,pI 0,pI 0,pNil,pNil,p16 0,p16 0,pNil])]) ?_ ?_
    ·refine w_seq (w_R (qo hnt rfl (s_eql rfl rfl ?_)))
     refine qa hnt rfl rfl (r_end (q_then (w_if rfl (fun c8 => ?_) (fun c8 => ?_))))
     ·have c8_ := c8
      try simp only [sB] at c8
      refine w_skip (q_then (⟨(decide (e1.request.fn = 5)), ?_,⟨[(0,0),(1,1),(2,2),(3,3)],by rw [hk]; decide,⟨⟨_,rfl,rfl,rfl⟩,⟨_,rfl,rfl,rfl⟩,⟨_,rfl,rfl,rfl⟩,⟨_,rfl,rfl,rfl⟩,⟨_,rfl,rfl,rfl⟩,⟨_,rfl,rfl,rfl⟩,⟨_,rfl,rfl,rfl⟩,⟨_,rfl,rfl,rfl⟩,⟨_,rfl,rfl,rfl⟩,trivial⟩,⟨⟨_,_,rfl,rfl,rfl,rfl⟩,⟨_,_,rfl,rfl,rfl,rfl⟩,⟨_,_,rfl,rfl,rfl,rfl⟩,⟨_,_,rfl,rfl,rfl,rfl⟩,trivial⟩,by rw [hk]; decide⟩⟩))
      simp only [c8_,Bool.true_or,Bool.false_or]
     have c8_ := c8
     try simp only [sB] at c8
     refine w_R (qo hnt rfl (s_eql rfl rfl ?_))
     refine qa hnt rfl rfl (r_end (q_then (⟨(decide (e1.request.fn = 6)), ?_,⟨[(0,0),(1,1),(2,2),(3,3)],by rw [hk]; decide,⟨⟨_,rfl,rfl,rfl⟩,⟨_,rfl,rfl,rfl⟩,⟨_,rfl,rfl,rfl⟩,⟨_,rfl,rfl,rfl⟩,⟨_,rfl,rfl,rfl⟩,⟨_,rfl,rfl,rfl⟩,⟨_,rfl,rfl,rfl⟩,⟨_,rfl,rfl,rfl⟩,⟨_,rfl,rfl,rfl⟩,trivial⟩,⟨⟨_,_,rfl,rfl,rfl,rfl⟩,⟨_,_,rfl,rfl,rfl,rfl⟩,⟨_,_,rfl,rfl,rfl,rfl⟩,⟨_,_,rfl,rfl,rfl,rfl⟩,trivial⟩,by rw [hk]; decide⟩⟩)))
     simp only [c8_,Bool.true_or,Bool.false_or]
    intro bb3 hbb3
    subst hbb3
    refine w_if rfl (fun c9 => ?_) (fun c9 => ?_)
    ·try simp only [sB,Bool.or_eq_true,Bool.or_eq_false_iff] at c9
     refine wdr hnt (xd 15 [.o 15] [] 4 [(3,.obj [pI e1.request.fn,pI 0,pI e1.request.at_,pI 0,pI 0,pS 1 false encBo e1.request.bits,pS 1 false enc16 e1.request.vals,p16 0,p16 0,pNil]),(0,.obj [pS 1 false encI u,pN ap]),(1,oB true 10 eReply os),(2,.obj (cPart e1))] (xe [(3,pB all),(9,PV.ptr 0 0),(12,PV.ref 1 0 none),(15,PV.ptr 3 0),(27,pS 10 false ePart S1.1),(28,pN S1.1.length),(29,pN i)] ?_))
     have hz5 : e1.request.fn = rb.fn ∧ 0 = rb.code ∧ e1.request.at_ = rb.at_ ∧ 0 = rb.count ∧ 0 = rb.sub ∧ e1.request.bits = rb.bits ∧ e1.request.vals = rb.vals ∧ 0 = rb.and_ ∧ 0 = rb.or_ ∧ ([] : List UInt8) = rb.data := by and_intros <;> ((rw [(Prod.mk.inj (hrb.trans (base_5 (by omega)))).1]; done))
     refine r_leO (n := 3) (ds := cReply rb) rfl ⟨le_of_eq (congrArg pI hz5.1),le_of_eq (congrArg pI hz5.2.1),le_of_eq (congrArg pI hz5.2.2.1),le_of_eq (congrArg pI hz5.2.2.2.1),le_of_eq (congrArg pI hz5.2.2.2.2.1),le_of_eq (congrArg (fun z => pS 1 false encBo z) hz5.2.2.2.2.2.1),le_of_eq (congrArg (fun z => pS 1 false enc16 z) hz5.2.2.2.2.2.2.1),le_of_eq (congrArg p16 hz5.2.2.2.2.2.2.2.1),le_of_eq (congrArg p16 hz5.2.2.2.2.2.2.2.2.1),le_tr (le_nilS 1 false) (le_of_eq (congrArg (fun z => pS 1 false enc8 z) hz5.2.2.2.2.2.2.2.2.2)),trivial⟩ (r_end (q_block (q_then (⟨(ap), ?_,⟨[(0,0),(1,3),(2,1)],by rw [hk]; decide,⟨⟨_,rfl,rfl,rfl⟩,⟨_,rfl,rfl,rfl⟩,⟨_,rfl,rfl,rfl⟩,⟨_,rfl,rfl,rfl⟩,⟨_,rfl,rfl,rfl⟩,⟨_,rfl,rfl,rfl⟩,⟨_,rfl,rfl,rfl⟩,trivial⟩,⟨⟨_,_,rfl,rfl,rfl,rfl⟩,⟨_,_,rfl,rfl,rfl,rfl⟩,⟨_,_,rfl,rfl,rfl,rfl⟩,trivial⟩,by rw [hk]; decide⟩⟩))))
     (rw [(Prod.mk.inj (hrb.trans (base_5 (by omega)))).2]; done)
    try simp only [sB,Bool.or_eq_true,Bool.or_eq_false_iff] at c9
    refine wdr hnt (xd 10 [.o 10] [] 4 [(3,.obj [pI e1.request.fn,pI 0,pI e1.request.at_,pI e1.request.count,pI 0,pNil,pNil,p16 0,p16 0,pNil]),(0,.obj [pS 1 false encI u,pN ap]),(1,oB true 10 eReply os),(2,.obj (cPart e1))] (xe [(3,pB all),(9,PV.ptr 0 0),(12,PV.ref 1 0 none),(15,PV.ptr 3 0),(27,pS 10 false ePart S1.1),(28,pN S1.1.length),(29,pN i)] ?_))
    have hz6 : e1.request.fn = rb.fn ∧ 0 = rb.code ∧ e1.request.at_ = rb.at_ ∧ e1.request.count = rb.count ∧ 0 = rb.sub ∧ ([] : List Bool) = rb.bits ∧ ([] : List UInt16) = rb.vals ∧ 0 = rb.and_ ∧ 0 = rb.or_ ∧ ([] : List UInt8) = rb.data := by and_intros <;> ((rw [(Prod.mk.inj (hrb.trans (base_15 (by omega)))).1]; done))
    refine r_leO (n := 3) (ds := cReply rb) rfl ⟨le_of_eq (congrArg pI hz6.1),le_of_eq (congrArg pI hz6.2.1),le_of_eq (congrArg pI hz6.2.2.1),le_of_eq (congrArg pI hz6.2.2.2.1),le_of_eq (congrArg pI hz6.2.2.2.2.1),le_tr (le_nilS 1 false) (le_of_eq (congrArg (fun z => pS 1 false encBo z) hz6.2.2.2.2.2.1)),le_tr (le_nilS 1 false) (le_of_eq (congrArg (fun z => pS 1 false enc16 z) hz6.2.2.2.2.2.2.1)),le_of_eq (congrArg p16 hz6.2.2.2.2.2.2.2.1),le_of_eq (congrArg p16 hz6.2.2.2.2.2.2.2.2.1),le_tr (le_nilS 1 false) (le_of_eq (congrArg (fun z => pS 1 false enc8 z) hz6.2.2.2.2.2.2.2.2.2)),trivial⟩ (r_end (q_block (q_then (⟨(ap), ?_,⟨[(0,0),(1,3),(2,1)],by rw [hk]; decide,⟨⟨_,rfl,rfl,rfl⟩,⟨_,rfl,rfl,rfl⟩,⟨_,rfl,rfl,rfl⟩,⟨_,rfl,rfl,rfl⟩,⟨_,rfl,rfl,rfl⟩,⟨_,rfl,rfl,rfl⟩,⟨_,rfl,rfl,rfl⟩,trivial⟩,⟨⟨_,_,rfl,rfl,rfl,rfl⟩,⟨_,_,rfl,rfl,rfl,rfl⟩,⟨_,_,rfl,rfl,rfl,rfl⟩,trivial⟩,by rw [hk]; decide⟩⟩))))
    (rw [(Prod.mk.inj (hrb.trans (base_15 (by omega)))).2]; done)
   intro ac hac
   subst hac
   refine w_seq (w_seq (w_R (xp hnt 2 [.o 2] [] [(99,pB (!all))] (r_end (q_then ?_)))))
   refine w_if rfl (fun c10 => ?_) (fun c10 => ?_)
   ·try simp only [sB] at c10
    refine w_seq (w_R (qm hnt rfl rfl ?_))
    have h11 := tNext_lt u (tStep u ac 14) (n := 11) (by decide)
    have h60 := tNext_lt u (tStep u ac 14) (n := 6) (by decide)
    refine qo hnt rfl (s_callK 3 (pI (tNext u ac 14)) [(0,.obj [pS 1 false encI u,pN (tStep u ac 14)]),(1,.obj (cReply rb)),(2,oB true 10 eReply os)] [0] (w_burgagekeep_Tape_Next u false ac 14 (by omega) (by omega)) ?_)
    refine r_set [(3,pB all),(9,PV.ptr 0 0),(12,PV.ref 2 0 none),(15,PV.ptr 1 0),(27,pS 10 false ePart S1.1),(28,pN S1.1.length),(29,pN i),(101,pI (tNext u ac 14))] [(0,.obj [pS 1 false encI u,pN (tStep u ac 14)]),(1,.obj (cReply rb)),(2,oB true 10 eReply os)] 3 ⟨rfl,rfl,rfl,rfl,rfl,rfl,rfl,rfl,trivial⟩ rfl rfl (r_end (q_then (w_block (w_seq ?_))))
    have h14 := tNext_lt u ac (n := 14) (by decide)
    refine w_R (qo hnt rfl (s_eql rfl rfl ?_))
    refine qa hnt rfl rfl (r_end (q_then (w_if rfl (fun c11 => ?_) (fun c11 => ?_))))
    ·try simp only [sB] at c11
     refine wdr hnt (xq 3 [.o 3] [] (xk [(106,PV.ptr 0 0)] [] [(0,.obj [pS 1 false encI u,pN (tStep u ac 14)])] [(0,.obj [pS 1 false encI u,pN (tStep u (tStep u ac 14) 11)])] [(0,.obj [pS 1 false encI u,pN (tStep u (tStep u ac 14) 11)]),(1,.obj (cReply rb)),(2,oB true 10 eReply os)] (s_callK 3 (pI (tNext u (tStep u ac 14) 11)) _ [0] (w_burgagekeep_Tape_Next u false (tStep u ac 14) 11 (by omega) (by omega)) ⟨rfl,rfl,rfl⟩) (xd 3 [.o 1,.c (PV.f (eReply (refuseR rb.fn (1 + (tNext u (tStep u ac 14) 11))))),.o 1] [okI (1 + (tNext u (tStep u ac 14) 11)),T Try.prog 26 [pI rb.fn,pI (1 + (tNext u (tStep u ac 14) 11))] 0 [] (Ret (PV.f (eReply (refuseR rb.fn (1 + (tNext u (tStep u ac 14) 11))))) 0 [])] 3 [(1,.obj [pI ((refuseR rb.fn (1 + (tNext u (tStep u ac 14) 11))).fn),pI ((refuseR rb.fn (1 + (tNext u (tStep u ac 14) 11))).code),pI ((refuseR rb.fn (1 + (tNext u (tStep u ac 14) 11))).at_),pI ((refuseR rb.fn (1 + (tNext u (tStep u ac 14) 11))).count),pI ((refuseR rb.fn (1 + (tNext u (tStep u ac 14) 11))).sub),pS 1 false encBo ((refuseR rb.fn (1 + (tNext u (tStep u ac 14) 11))).bits),pS 1 false enc16 ((refuseR rb.fn (1 + (tNext u (tStep u ac 14) 11))).vals),p16 ((refuseR rb.fn (1 + (tNext u (tStep u ac 14) 11))).and_),p16 ((refuseR rb.fn (1 + (tNext u (tStep u ac 14) 11))).or_),pS 1 false enc8 ((refuseR rb.fn (1 + (tNext u (tStep u ac 14) 11))).data)]),(0,.obj [pS 1 false encI u,pN (tStep u (tStep u ac 14) 11)]),(2,oB true 10 eReply os)] ?_ (hc := ⟨by unfold okI; (omega),(w_burgageref3_Refuse rb.fn (1 + (tNext u (tStep u ac 14) 11))),trivial⟩))))
     refine xe [(3,pB all),(9,PV.ptr 0 0),(12,PV.ref 2 0 none),(15,PV.ptr 1 0),(27,pS 10 false ePart S1.1),(28,pN S1.1.length),(29,pN i)] (r_end (q_block (q_then (w_R (qm hnt rfl rfl ?_)))))
     refine qo hnt rfl (s_load_ptr tab_62 rfl rfl rfl (Nat.le_of_ble_eq_true rfl) ?_)
     refine qo hnt rfl (s_mkM (f := eReply) [(refuseR rb.fn (1 + (tNext u (tStep u ac 14) 11)))] tab_58 rfl tab_62 ⟨rfl,by decide⟩ (by decide) rfl rfl rfl rfl ?_)
     refine qo hnt rfl (s_appR0 (f := eReply) (l := os) (xs := [(refuseR rb.fn (1 + (tNext u (tStep u ac 14) 11)))]) tab_58 rfl tab_62 ⟨rfl,by decide,by decide⟩ (srcM tab_58 rfl (hM_ref0 (f := eReply) rfl rfl)) rfl rfl (by (simp; omega)) ?_)
     refine qa hnt rfl rfl (r_set [(3,pB all),(9,PV.ptr 0 0),(12,PV.ref 4 0 none),(27,pS 10 false ePart S1.1),(28,pN S1.1.length),(29,pN i)] [(4,oB true 10 eReply (os ++ [(refuseR rb.fn (1 + (tNext u (tStep u ac 14) 11)))])),(3,oB true 10 eReply [(refuseR rb.fn (1 + (tNext u (tStep u ac 14) 11)))]),(1,.obj [pI ((refuseR rb.fn (1 + (tNext u (tStep u ac 14) 11))).fn),pI ((refuseR rb.fn (1 + (tNext u (tStep u ac 14) 11))).code),pI ((refuseR rb.fn (1 + (tNext u (tStep u ac 14) 11))).at_),pI ((refuseR rb.fn (1 + (tNext u (tStep u ac 14) 11))).count),pI ((refuseR rb.fn (1 + (tNext u (tStep u ac 14) 11))).sub),pS 1 false encBo ((refuseR rb.fn (1 + (tNext u (tStep u ac 14) 11))).bits),pS 1 false enc16 ((refuseR rb.fn (1 + (tNext u (tStep u ac 14) 11))).vals),p16 ((refuseR rb.fn (1 + (tNext u (tStep u ac 14) 11))).and_),p16 ((refuseR rb.fn (1 + (tNext u (tStep u ac 14) 11))).or_),pS 1 false enc8 ((refuseR rb.fn (1 + (tNext u (tStep u ac 14) 11))).data)]),(0,.obj [pS 1 false encI u,pN (tStep u (tStep u ac 14) 11)])] 5 ⟨rfl,rfl,rfl,rfl,rfl,rfl,trivial⟩ rfl rfl (r_end (q_block (q_then (w_R ?_)))))
     refine qo hnt rfl (s_addN (a := i) (b := 1) rfl rfl (by omega) (by omega) (by omega) ?_)
     refine qm hnt rfl rfl (r_end (q_then (⟨(tStep u (tStep u ac 14) 11),(os ++ [(refuseR rb.fn (1 + (tNext u (tStep u ac 14) 11)))]),(i + 1), ?_, ?_,⟨[(0,0),(1,4)],by rw [hk]; decide,⟨⟨_,rfl,rfl,rfl⟩,⟨_,rfl,rfl,rfl⟩,⟨_,rfl,rfl,rfl⟩,⟨_,rfl,rfl,rfl⟩,⟨_,rfl,rfl,rfl⟩,⟨_,rfl,rfl,rfl⟩,trivial⟩,⟨⟨_,_,rfl,rfl,rfl,rfl⟩,⟨_,_,rfl,rfl,rfl,rfl⟩,trivial⟩,by rw [hk]; decide⟩⟩)))
     ·refine ⟨by omega, ?_,by simp; omega⟩
      exact go_turn (by simp_all) hgo he1 hrb.symm (turn_0 (by omega))
     · omega
    try simp only [sB] at c11
    refine w_seq (w_R (qo hnt rfl (s_eql rfl rfl ?_)))
    refine qa hnt rfl rfl (r_end (q_then (w_if rfl (fun c12 => ?_) (fun c12 => ?_))))
    ·try simp only [sB] at c12
     refine w_R (qm hnt rfl rfl (qo hnt rfl (s_callK 3 (pI (tNext u (tStep u ac 14) 6)) [(0,.obj [pS 1 false encI u,pN (tStep u (tStep u ac 14) 6)]),(1,.obj (cReply rb)),(2,oB true 10 eReply os)] [0] (w_burgagekeep_Tape_Next u false (tStep u ac 14) 6 (by omega) (by omega)) ?_)))
     refine qo hnt rfl (s_addi (r := 1 + (tNext u (tStep u ac 14) 6)) rfl rfl rfl (by omega) ?_)
     refine qo hnt rfl (s_fa_ptr tab_62 rfl rfl tab_3 (by decide) rfl ?_)
     refine qo hnt rfl (s_store_ptr tab_3 rfl rfl rfl rfl rfl (Nat.le_of_ble_eq_true rfl) ?_)
     refine r_set [(3,pB all),(9,PV.ptr 0 0),(12,PV.ref 2 0 none),(15,PV.ptr 1 0),(27,pS 10 false ePart S1.1),(28,pN S1.1.length),(29,pN i)] [(1,.obj [pI (1 + (tNext u (tStep u ac 14) 6)),pI rb.code,pI rb.at_,pI rb.count,pI rb.sub,pS 1 false encBo rb.bits,pS 1 false enc16 rb.vals,p16 rb.and_,p16 rb.or_,pS 1 false enc8 rb.data]),(0,.obj [pS 1 false encI u,pN (tStep u (tStep u ac 14) 6)]),(2,oB true 10 eReply os)] 3 ⟨rfl,rfl,rfl,rfl,rfl,rfl,rfl,trivial⟩ rfl rfl (r_end (q_block (q_then (w_R (qm hnt rfl rfl ?_)))))
     refine qo hnt rfl (s_load_ptr tab_62 rfl rfl rfl (Nat.le_of_ble_eq_true rfl) ?_)
     refine qo hnt rfl (s_mkM (f := eReply) [(⟨1 + (tNext u (tStep u ac 14) 6),rb.code,rb.at_,rb.count,rb.sub,rb.bits,rb.vals,rb.and_,rb.or_,rb.data⟩ : TReply)] tab_58 rfl tab_62 ⟨rfl,by decide⟩ (by decide) rfl rfl rfl rfl ?_)
     refine qo hnt rfl (s_appR0 (f := eReply) (l := os) (xs := [(⟨1 + (tNext u (tStep u ac 14) 6),rb.code,rb.at_,rb.count,rb.sub,rb.bits,rb.vals,rb.and_,rb.or_,rb.data⟩ : TReply)]) tab_58 rfl tab_62 ⟨rfl,by decide,by decide⟩ (srcM tab_58 rfl (hM_ref0 (f := eReply) rfl rfl)) rfl rfl (by (simp; omega)) ?_)
     refine qa hnt rfl rfl (r_set [(3,pB all),(9,PV.ptr 0 0),(12,PV.ref 4 0 none),(27,pS 10 false ePart S1.1),(28,pN S1.1.length),(29,pN i)] [(4,oB true 10 eReply (os ++ [(⟨1 + (tNext u (tStep u ac 14) 6),rb.code,rb.at_,rb.count,rb.sub,rb.bits,rb.vals,rb.and_,rb.or_,rb.data⟩ : TReply)])),(3,oB true 10 eReply [(⟨1 + (tNext u (tStep u ac 14) 6),rb.code,rb.at_,rb.count,rb.sub,rb.bits,rb.vals,rb.and_,rb.or_,rb.data⟩ : TReply)]),(1,.obj [pI (1 + (tNext u (tStep u ac 14) 6)),pI rb.code,pI rb.at_,pI rb.count,pI rb.sub,pS 1 false encBo rb.bits,pS 1 false enc16 rb.vals,p16 rb.and_,p16 rb.or_,pS 1 false enc8 rb.data]),(0,.obj [pS 1 false encI u,pN (tStep u (tStep u ac 14) 6)])] 5 ⟨rfl,rfl,rfl,rfl,rfl,rfl,trivial⟩ rfl rfl (r_end (q_block (q_then (w_R ?_)))))
     refine qo hnt rfl (s_addN (a := i) (b := 1) rfl rfl (by omega) (by omega) (by omega) ?_)
     refine qm hnt rfl rfl (r_end (q_then (⟨(tStep u (tStep u ac 14) 6),(os ++ [(⟨1 + (tNext u (tStep u ac 14) 6),rb.code,rb.at_,rb.count,rb.sub,rb.bits,rb.vals,rb.and_,rb.or_,rb.data⟩ : TReply)]),(i + 1), ?_, ?_,⟨[(0,0),(1,4)],by rw [hk]; decide,⟨⟨_,rfl,rfl,rfl⟩,⟨_,rfl,rfl,rfl⟩,⟨_,rfl,rfl,rfl⟩,⟨_,rfl,rfl,rfl⟩,⟨_,rfl,rfl,rfl⟩,⟨_,rfl,rfl,rfl⟩,trivial⟩,⟨⟨_,_,rfl,rfl,rfl,rfl⟩,⟨_,_,rfl,rfl,rfl,rfl⟩,trivial⟩,by rw [hk]; decide⟩⟩)))
     ·refine ⟨by omega, ?_,by simp; omega⟩
      exact go_turn (by simp_all) hgo he1 hrb.symm (turn_1 (by omega))
     · omega
    try simp only [sB] at c12
    refine w_seq (w_R (qo hnt rfl (s_eql rfl rfl ?_)))
    refine qa hnt rfl rfl (r_end (q_then (w_if rfl (fun c13 => ?_) (fun c13 => ?_))))
    ·try simp only [sB] at c13
     refine w_R (qo hnt rfl (s_mkM (f := enc16) ([] : List UInt16) tab_34 rfl tab_35 ⟨rfl,by decide⟩ (by decide) rfl rfl rfl rfl ?_))
     refine xp hnt 2 [.o 2] [] [(120,pS 1 false enc16 rb.vals)] (qo hnt rfl (s_appR0 (f := enc16) (l := ([] : List UInt16)) (xs := rb.vals) tab_34 rfl tab_35 ⟨rfl,by decide,by decide⟩ (srcM tab_34 rfl (hM_sl (f := enc16) rfl)) rfl rfl (by (simp; omega)) ?_))
     refine qo hnt rfl (s_mkM (f := enc16) ([7] : List UInt16) tab_34 rfl tab_35 ⟨rfl,by decide⟩ (by decide) rfl rfl rfl rfl ?_)
     refine qo hnt rfl (s_appR0 (f := enc16) (l := rb.vals) (xs := ([7] : List UInt16)) tab_34 rfl tab_35 ⟨rfl,by decide,by decide⟩ (srcM tab_34 rfl (hM_ref0 (f := enc16) rfl rfl)) rfl rfl (by (simp; omega)) ?_)
     refine qo hnt rfl (s_fa_ptr tab_62 rfl rfl tab_34 (by decide) rfl ?_)
     refine qo hnt rfl (s_store_ptr tab_34 rfl rfl rfl rfl rfl (Nat.le_of_ble_eq_true rfl) ?_)
     refine r_set [(3,pB all),(9,PV.ptr 0 0),(12,PV.ref 2 0 none),(15,PV.ptr 1 0),(27,pS 10 false ePart S1.1),(28,pN S1.1.length),(29,pN i)] [(1,.obj [pI rb.fn,pI rb.code,pI rb.at_,pI rb.count,pI rb.sub,pS 1 false encBo rb.bits,PV.ref 6 0 none,p16 rb.and_,p16 rb.or_,pS 1 false enc8 rb.data]),(6,oB true 1 enc16 (rb.vals ++ ([7] : List UInt16))),(5,oB true 1 enc16 ([7] : List UInt16)),(0,.obj [pS 1 false encI u,pN (tStep u ac 14)]),(2,oB true 10 eReply os)] 7 ⟨rfl,rfl,rfl,rfl,rfl,rfl,rfl,trivial⟩ rfl rfl (r_end (q_block (q_then (w_R (qm hnt rfl rfl ?_)))))
     refine qo hnt rfl (s_load_ptr tab_62 rfl rfl rfl (Nat.le_of_ble_eq_true rfl) ?_)
     refine qo hnt rfl (s_mkM (f := eReply) [(⟨rb.fn,rb.code,rb.at_,rb.count,rb.sub,rb.bits,rb.vals ++ ([7] : List UInt16),rb.and_,rb.or_,rb.data⟩ : TReply)] tab_58 rfl tab_62 ⟨rfl,by decide⟩ (by decide) rfl rfl rfl rfl ?_)
     refine qo hnt rfl (s_appR0 (f := eReply) (l := os) (xs := [(⟨rb.fn,rb.code,rb.at_,rb.count,rb.sub,rb.bits,rb.vals ++ ([7] : List UInt16),rb.and_,rb.or_,rb.data⟩ : TReply)]) tab_58 rfl tab_62 ⟨rfl,by decide,by decide⟩ (srcM tab_58 rfl (hM_ref0 (f := eReply) rfl rfl)) rfl rfl (by (simp; omega)) ?_)
     refine qa hnt rfl rfl (r_set [(3,pB all),(9,PV.ptr 0 0),(12,PV.ref 8 0 none),(27,pS 10 false ePart S1.1),(28,pN S1.1.length),(29,pN i)] [(8,oB true 10 eReply (os ++ ([(⟨rb.fn,rb.code,rb.at_,rb.count,rb.sub,rb.bits,rb.vals ++ ([7] : List UInt16),rb.and_,rb.or_,rb.data⟩ : TReply)]))),(7,oB true 10 eReply ([(⟨rb.fn,rb.code,rb.at_,rb.count,rb.sub,rb.bits,rb.vals ++ ([7] : List UInt16),rb.and_,rb.or_,rb.data⟩ : TReply)])),(6,oB false 1 enc16 (rb.vals ++ ([7] : List UInt16))),(1,.obj [pI rb.fn,pI rb.code,pI rb.at_,pI rb.count,pI rb.sub,pS 1 false encBo rb.bits,PV.ref 6 0 none,p16 rb.and_,p16 rb.or_,pS 1 false enc8 rb.data]),(5,oB true 1 enc16 ([7] : List UInt16)),(0,.obj [pS 1 false encI u,pN (tStep u ac 14)])] 9 ⟨rfl,rfl,rfl,rfl,rfl,rfl,trivial⟩ rfl rfl (r_end (q_block (q_then (w_R ?_)))))
     refine qo hnt rfl (s_addN (a := i) (b := 1) rfl rfl (by omega) (by omega) (by omega) ?_)
     refine qm hnt rfl rfl (r_end (q_then (⟨(tStep u ac 14),(os ++ ([(⟨rb.fn,rb.code,rb.at_,rb.count,rb.sub,rb.bits,rb.vals ++ ([7] : List UInt16),rb.and_,rb.or_,rb.data⟩ : TReply)])),(i + 1), ?_, ?_,⟨[(0,0),(1,8)],by rw [hk]; decide,⟨⟨_,rfl,rfl,rfl⟩,⟨_,rfl,rfl,rfl⟩,⟨_,rfl,rfl,rfl⟩,⟨_,rfl,rfl,rfl⟩,⟨_,rfl,rfl,rfl⟩,⟨_,rfl,rfl,rfl⟩,trivial⟩,⟨⟨_,_,rfl,rfl,rfl,rfl⟩,⟨_,_,rfl,rfl,rfl,rfl⟩,trivial⟩,by rw [hk]; decide⟩⟩)))
     ·refine ⟨by omega, ?_,by simp; omega⟩
      exact go_turn (by simp_all) hgo he1 hrb.symm (turn_2 (by omega))
     · omega
    try simp only [sB] at c13
    refine w_seq (w_R (qo hnt rfl (s_eql rfl rfl ?_)))
    refine qa hnt rfl rfl (r_end (q_then (w_if rfl (fun c14 => ?_) (fun c14 => ?_))))
    ·try simp only [sB] at c14
     refine w_R (xm hnt 5 [.o 5] [okI (rb.at_ + 70000)] [] 3 [(1,.obj [pI rb.fn,pI rb.code,pI (rb.at_ + 70000),pI rb.count,pI rb.sub,pS 1 false encBo rb.bits,pS 1 false enc16 rb.vals,p16 rb.and_,p16 rb.or_,pS 1 false enc8 rb.data]),(0,.obj [pS 1 false encI u,pN (tStep u ac 14)]),(2,oB true 10 eReply os)] ?_ (hc := ⟨by unfold okI; (omega),trivial⟩))
     refine r_end (q_block (q_then (w_R (qm hnt rfl rfl (qo hnt rfl (s_load_ptr tab_62 rfl rfl rfl (Nat.le_of_ble_eq_true rfl) ?_))))))
     refine qo hnt rfl (s_mkM (f := eReply) [(⟨rb.fn,rb.code,rb.at_ + 70000,rb.count,rb.sub,rb.bits,rb.vals,rb.and_,rb.or_,rb.data⟩ : TReply)] tab_58 rfl tab_62 ⟨rfl,by decide⟩ (by decide) rfl rfl rfl rfl ?_)
     refine qo hnt rfl (s_appR0 (f := eReply) (l := os) (xs := [(⟨rb.fn,rb.code,rb.at_ + 70000,rb.count,rb.sub,rb.bits,rb.vals,rb.and_,rb.or_,rb.data⟩ : TReply)]) tab_58 rfl tab_62 ⟨rfl,by decide,by decide⟩ (srcM tab_58 rfl (hM_ref0 (f := eReply) rfl rfl)) rfl rfl (by (simp; omega)) ?_)
     refine qa hnt rfl rfl (r_set [(3,pB all),(9,PV.ptr 0 0),(12,PV.ref 4 0 none),(27,pS 10 false ePart S1.1),(28,pN S1.1.length),(29,pN i)] [(4,oB true 10 eReply (os ++ [(⟨rb.fn,rb.code,rb.at_ + 70000,rb.count,rb.sub,rb.bits,rb.vals,rb.and_,rb.or_,rb.data⟩ : TReply)])),(3,oB true 10 eReply [(⟨rb.fn,rb.code,rb.at_ + 70000,rb.count,rb.sub,rb.bits,rb.vals,rb.and_,rb.or_,rb.data⟩ : TReply)]),(1,.obj [pI rb.fn,pI rb.code,pI (rb.at_ + 70000),pI rb.count,pI rb.sub,pS 1 false encBo rb.bits,pS 1 false enc16 rb.vals,p16 rb.and_,p16 rb.or_,pS 1 false enc8 rb.data]),(0,.obj [pS 1 false encI u,pN (tStep u ac 14)])] 5 ⟨rfl,rfl,rfl,rfl,rfl,rfl,trivial⟩ rfl rfl (r_end (q_block (q_then (w_R ?_)))))
     refine qo hnt rfl (s_addN (a := i) (b := 1) rfl rfl (by omega) (by omega) (by omega) ?_)
     refine qm hnt rfl rfl (r_end (q_then (⟨(tStep u ac 14),(os ++ [(⟨rb.fn,rb.code,rb.at_ + 70000,rb.count,rb.sub,rb.bits,rb.vals,rb.and_,rb.or_,rb.data⟩ : TReply)]),(i + 1), ?_, ?_,⟨[(0,0),(1,4)],by rw [hk]; decide,⟨⟨_,rfl,rfl,rfl⟩,⟨_,rfl,rfl,rfl⟩,⟨_,rfl,rfl,rfl⟩,⟨_,rfl,rfl,rfl⟩,⟨_,rfl,rfl,rfl⟩,⟨_,rfl,rfl,rfl⟩,trivial⟩,⟨⟨_,_,rfl,rfl,rfl,rfl⟩,⟨_,_,rfl,rfl,rfl,rfl⟩,trivial⟩,by rw [hk]; decide⟩⟩)))
     ·refine ⟨by omega, ?_,by simp; omega⟩
      exact go_turn (by simp_all) hgo he1 hrb.symm (turn_3 (by omega))
     · omega
    try simp only [sB] at c14
    refine w_seq (w_R (qo hnt rfl (s_eql rfl rfl ?_)))
    refine qa hnt rfl rfl (r_end (q_then (w_if rfl (fun c15 => ?_) (fun c15 => ?_))))
    ·try simp only [sB] at c15
     refine w_seq (w_R (qm hnt rfl rfl (qa hnt rfl rfl (r_end (q_then ?_)))))
     refine w_H (H' := [(0,.obj [pS 1 false encI u,pN (tStep u ac 14)]),(1,.obj (cReply rb)),(2,oB true 10 eReply (ansGo u all (splitP t.functions t.windows q).1 0))]) (congrArg (fun z => ([(0,.obj [pS 1 false encI u,pN (tStep u ac 14)]),(1,.obj (cReply rb)),(2,oB true 10 eReply z)] : Heap)) (show os = ansGo u all (splitP t.functions t.windows q).1 0 by (rw [← hS1]; exact go_stop (by simp_all) hgo he1 hrb.symm (turn_4 (by omega))))) (w_ret (q_block_ret (q_then_ret (q_block_ret (q_then_ret ?_)))))
     refine q_then_ret (q_block_ret (q_then_ret ?_))
     exact fin_names (nx1 := 1) (H1 := [(0,oB true 10 eReply (ansGo u all (splitP t.functions t.windows q).1 0))]) [(0,2)] (ret_tmp rfl ret_nil) rfl (by decide) ⟨⟨_,_,rfl,rfl,rfl,rfl⟩,trivial⟩ (by decide) rfl ⟨rfl,rfl,rfl⟩
    try simp only [sB] at c15
    refine w_skip (q_block (q_then (w_R (xp hnt 2 [.o 2] [] [(134,PV.ref 2 0 none),(135,PV.f (eReply rb))] (qo hnt rfl (s_mkM (f := eReply) [rb] tab_58 rfl tab_62 ⟨rfl,by decide⟩ (by decide) rfl rfl rfl rfl ?_))))))
    refine qo hnt rfl (s_appR0 (f := eReply) (l := os) (xs := [rb]) tab_58 rfl tab_62 ⟨rfl,by decide,by decide⟩ (srcM tab_58 rfl (hM_ref0 (f := eReply) rfl rfl)) rfl rfl (by (simp; omega)) ?_)
    refine qa hnt rfl rfl (r_set [(3,pB all),(9,PV.ptr 0 0),(12,PV.ref 4 0 none),(27,pS 10 false ePart S1.1),(28,pN S1.1.length),(29,pN i)] [(4,oB true 10 eReply (os ++ [rb])),(3,oB true 10 eReply [rb]),(0,.obj [pS 1 false encI u,pN (tStep u ac 14)]),(1,.obj (cReply rb))] 5 ⟨rfl,rfl,rfl,rfl,rfl,rfl,trivial⟩ rfl rfl (r_end (q_block (q_then (w_R ?_)))))
    refine qo hnt rfl (s_addN (a := i) (b := 1) rfl rfl (by omega) (by omega) (by omega) ?_)
    refine qm hnt rfl rfl (r_end (q_then (⟨(tStep u ac 14),(os ++ [rb]),(i + 1), ?_, ?_,⟨[(0,0),(1,4)],by rw [hk]; decide,⟨⟨_,rfl,rfl,rfl⟩,⟨_,rfl,rfl,rfl⟩,⟨_,rfl,rfl,rfl⟩,⟨_,rfl,rfl,rfl⟩,⟨_,rfl,rfl,rfl⟩,⟨_,rfl,rfl,rfl⟩,trivial⟩,⟨⟨_,_,rfl,rfl,rfl,rfl⟩,⟨_,_,rfl,rfl,rfl,rfl⟩,trivial⟩,by rw [hk]; decide⟩⟩)))
    ·refine ⟨by omega, ?_,by simp; omega⟩
     exact go_turn (by simp_all) hgo he1 hrb.symm (turn_5 (by omega))
    · omega
   try simp only [sB] at c10
   refine w_skip (q_then (w_R (xp hnt 2 [.o 2] [] [(134,PV.ref 2 0 none),(135,PV.f (eReply rb))] (qo hnt rfl (s_mkM (f := eReply) [rb] tab_58 rfl tab_62 ⟨rfl,by decide⟩ (by decide) rfl rfl rfl rfl ?_)))))
   refine qo hnt rfl (s_appR0 (f := eReply) (l := os) (xs := [rb]) tab_58 rfl tab_62 ⟨rfl,by decide,by decide⟩ (srcM tab_58 rfl (hM_ref0 (f := eReply) rfl rfl)) rfl rfl (by (simp; omega)) ?_)
   refine qa hnt rfl rfl (r_set [(3,pB all),(9,PV.ptr 0 0),(12,PV.ref 4 0 none),(27,pS 10 false ePart S1.1),(28,pN S1.1.length),(29,pN i)] [(4,oB true 10 eReply (os ++ [rb])),(3,oB true 10 eReply [rb]),(0,.obj [pS 1 false encI u,pN ac]),(1,.obj (cReply rb))] 5 ⟨rfl,rfl,rfl,rfl,rfl,rfl,trivial⟩ rfl rfl (r_end (q_block (q_then (w_R ?_)))))
   refine qo hnt rfl (s_addN (a := i) (b := 1) rfl rfl (by omega) (by omega) (by omega) ?_)
   refine qm hnt rfl rfl (r_end (q_then (⟨(ac),(os ++ [rb]),(i + 1), ?_, ?_,⟨[(0,0),(1,4)],by rw [hk]; decide,⟨⟨_,rfl,rfl,rfl⟩,⟨_,rfl,rfl,rfl⟩,⟨_,rfl,rfl,rfl⟩,⟨_,rfl,rfl,rfl⟩,⟨_,rfl,rfl,rfl⟩,⟨_,rfl,rfl,rfl⟩,trivial⟩,⟨⟨_,_,rfl,rfl,rfl,rfl⟩,⟨_,_,rfl,rfl,rfl,rfl⟩,trivial⟩,by rw [hk]; decide⟩⟩)))
   ·refine ⟨by omega, ?_,by simp; omega⟩
    exact go_all (by simp_all) hgo he1 hrb.symm
   · omega
  try simp only [sB] at c1
  refine w_exit (q_then_exit (q_then_exit (q_block_exit (q_then (w_seq ?_)))))
  refine w_R (qm hnt rfl rfl (qa hnt rfl rfl (r_end (q_then (w_H (H' := [(0,.obj [pS 1 false encI u,pN ap]),(1,oB true 10 eReply (ansGo u all (splitP t.functions t.windows q).1 0))]) (congrArg (fun z => ([(0,.obj [pS 1 false encI u,pN ap]),(1,oB true 10 eReply z)] : Heap)) (show os = ansGo u all (splitP t.functions t.windows q).1 0 by (rw [← hS1,← hgo,ans_end (by omega),List.append_nil]; done))) ?_)))))
  refine w_ret ?_
  exact fin_names (nx1 := 1) (H1 := [(0,oB true 10 eReply (ansGo u all (splitP t.functions t.windows q).1 0))]) [(0,1)] (ret_tmp rfl ret_nil) rfl (by decide) ⟨⟨_,_,rfl,rfl,rfl,rfl⟩,trivial⟩ (by decide) rfl ⟨rfl,rfl,rfl⟩
end Go.Proofs.Ytlcmbkkimgdnmaa
set_option linter.unusedVariables false
set_option linter.unusedSimpArgs false
namespace Go.Proofs.Ytlcmbkkimgdnmaa
open Go Go.Proofs.Ytlcmbkkimgdnmaa.Pv
section
variable {F : Int} {l : List TWindow} {q : TRequest}
theorem mapL_cnt {s a n : Int} {p : TPiece} (h : p ∈ mapL l s a n) : p.count ≤ n := by
  obtain ⟨i,hi⟩ := List.getElem?_of_mem h
  obtain ⟨_,_,_,h4,h5,_⟩ := mapL_get hi
  omega
theorem pW_cnt (hq : q.count ≤ 25 ∧ q.bits.length ≤ 25 ∧ q.vals.length ≤ 25) {p : TPiece} (h : p ∈ pW l q) : p.count ≤ 25 := by
  unfold pW at h
  repeat' split at h
  all_goals first|(cases h; done)|(have := mapL_cnt h; omega)
theorem pR_cnt (hq : q.count ≤ 25 ∧ q.bits.length ≤ 25 ∧ q.vals.length ≤ 25) {p : TPiece} (h : p ∈ pR l q) : p.count ≤ 25 := by
  unfold pR at h
  repeat' split at h
  all_goals first|(cases h; done)|(have := mapL_cnt h; omega)
theorem wPart_cnt {p : TPiece} (h : p.count ≤ 25) : (wPart q p).request.count ≤ 25 := by
  unfold wPart
  repeat' split
  all_goals first|(simp only; omega)|(simp; done)
theorem part_small (hq : q.count ≤ 25 ∧ q.bits.length ≤ 25 ∧ q.vals.length ≤ 25) : ∀ p ∈ (splitP F l q).1,SmallP p := by
  intro p hp
  by_cases h0 : codeP F l q = 0
  · rw [split_yes h0] at hp
    simp only at hp
    by_cases h22 : q.fn = 22
    · unfold partsP at hp
      rw [if_pos h22] at hp
      simp only [List.mem_cons,List.not_mem_nil,or_false] at hp
      rcases hp with rfl|rfl
      · exact ⟨by simp,by simp,by simp⟩
      · exact ⟨by simp,by simp,by simp⟩
    · rw [parts_no h22] at hp
      rcases List.mem_append.1 hp with h|h
      · obtain ⟨x,hx,rfl⟩ := List.mem_map.1 h
        have h1 := wPart_len q x
        exact ⟨wPart_cnt (pW_cnt hq hx),by omega,by omega⟩
      · obtain ⟨x,hx,rfl⟩ := List.mem_map.1 h
        exact ⟨pR_cnt hq hx,Nat.zero_le _,Nat.zero_le _⟩
  · rw [split_no h0] at hp; cases hp
end
end Go.Proofs.Ytlcmbkkimgdnmaa
set_option linter.unusedVariables false
set_option linter.unusedSimpArgs false
namespace Go.Proofs.Ytlcmbkkimgdnmaa
open Go Go.Proofs.Ytlcmbkkimgdnmaa.Pv
section
variable {F : Int} {l : List TWindow} {q : TRequest} {v : List Int}
theorem ansT_len : ∀ {ps : List TPart} {a : Nat},(ansGo v true ps a).length = ps.length
  | [],_ => rfl
  | p :: t,a => by rw [ansGo,if_pos rfl,List.length_cons,ansT_len,List.length_cons]
theorem base_code (L : List Int) (p : TPart) (a : Nat) : (baseJ L p a).1.code = 0 := by
  unfold baseJ
  repeat' split
  all_goals rfl
theorem ansT_code : ∀ {ps : List TPart} {a : Nat},∀ r ∈ ansGo v true ps a,r.code = 0
  | [],_,r,h => by cases h
  | p :: t,a,r,h => by
    rw [ansGo,if_pos rfl] at h
    rcases List.mem_cons.1 h with rfl|h
    · exact base_code _ _ _
    · exact ansT_code r h
theorem parts_some (h : (splitP F l q).1 ≠ []) : codeP F l q = 0 ∧ locP q.fn = false := by
  by_cases h0 : codeP F l q = 0
  · refine ⟨h0, ?_⟩
    by_cases h8 : q.fn = 8 ∨ q.fn = 17
    · exfalso; apply h
      rw [split_yes h0]
      simp only
      rw [parts_no (by omega)]
      obtain ⟨a,b,_⟩ := pAll_0 (l := l) (q := q) (by omega)
      rw [a,b]; rfl
    · unfold locP; rw [Bool.or_eq_false_iff]; exact ⟨decide_eq_false (by omega),decide_eq_false (by omega)⟩
  · exact absurd (split_nil h0) h
theorem fails_1 {k : Nat} {r : TReply} (hk : k < (splitP F l q).1.length) (hr : r.code ≠ 0) : joinV F l q ((ansGo v true (splitP F l q).1 0).set k r) = refuseR q.fn r.code := by
  have hl : (ansGo v true (splitP F l q).1 0).length = (splitP F l q).1.length := ansT_len
  obtain ⟨h0,h2⟩ := parts_some (F := F) (l := l) (q := q) (by intro h; rw [h] at hk; cases hk)
  refine join_ref h0 h2 ?_
  rw [List.take_of_length_le (by rw [List.length_set]; omega)]
  refine nz_first (i := k) (fun j x hj hx => ?_) (by rw [List.getElem?_set_self (by omega)]) (by unfold nzJ; simp [hr])
  rw [List.getElem?_set_ne (by omega)] at hx
  unfold nzJ; rw [ansT_code _ (List.mem_of_getElem? hx)]; rfl
theorem fails_2 {k : Nat} (hk : k < (splitP F l q).1.length) : joinV F l q ((ansGo v true (splitP F l q).1 0).take k) = refuseR q.fn 4 := by
  have hl : (ansGo v true (splitP F l q).1 0).length = (splitP F l q).1.length := ansT_len
  obtain ⟨h0,h2⟩ := parts_some (F := F) (l := l) (q := q) (by intro h; rw [h] at hk; cases hk)
  refine join_few h0 h2 (nz_all fun j x hj hx => ?_) (.inl (by rw [List.length_take]; omega))
  unfold nzJ
  rw [ansT_code _ (List.mem_of_mem_take (List.mem_of_mem_take (List.mem_of_getElem? hx)))]; rfl
theorem ansJ_rows (hq : q.count ≤ 25 ∧ q.bits.length ≤ 25 ∧ q.vals.length ≤ 25) {all : Bool} {a : Nat} : ∀ r ∈ ansGo v all (splitP F l q).1 a,r.bits.length ≤ 5000 ∧ r.vals.length ≤ 5000 ∧ r.data.length ≤ 5000 := by
  intro r hr
  obtain ⟨h1,h2,h3⟩ := (ans_small (L := v) (all := all) (a := a) (part_small (F := F) (l := l) hq)).2 r hr
  omega
def Few (l : List TReply) : Prop := ∀ r ∈ l,r.bits.length ≤ 5000 ∧ r.vals.length ≤ 5000 ∧ r.data.length ≤ 5000
theorem few_set {a : List TReply} (ha : Few a) {k : Nat} {f c : Int} : Few (a.set k (refuseR f c)) := fun r h => by
  rcases List.mem_or_eq_of_mem_set h with h|rfl
  · exact ha r h
  · simp [refuseR]
theorem few_take {a : List TReply} (ha : Few a) {k : Nat} : Few (a.take k) := fun r h => ha r (List.mem_of_mem_take h)
theorem refuse_code {f c : Int} (hc : 1 ≤ c ∧ c ≤ 255) : (refuseR f c).code = c := by
  unfold refuseR; simp only; omega
end
abbrev FJ : Int := 65800
abbrev JQ : TRequest := ⟨3,2,4,0,0,[],[],0,0⟩
abbrev JQ2 : TRequest := ⟨16,1,1,0,0,[],[5],0,0⟩
theorem kn_c7 : coverL [⟨0,4⟩,⟨4,4⟩] ⟨1,1⟩ = some [⟨1,1⟩] := by
  unfold coverL
  rw [if_pos (by decide),covGo_step (i := 0) (x := ⟨0,4⟩) (by decide) (by decide) rfl (by decide),covGo_end (by decide)]
  rfl
theorem kn_8 : mapOk LK 3 1 1 = true := by unfold mapOk coverOk; rw [kn_of,kn_c7]; rfl
theorem kn_9 : mapL LK 3 1 1 = [⟨1,101,1⟩] := by unfold mapL covW coverV; rw [kn_of,kn_c7]; decide
theorem kj_s1 : splitP FJ LK JQ = ([⟨⟨3,102,2,0,0,[],[],0,0⟩,false⟩,⟨⟨3,50,2,0,0,[],[],0,0⟩,false⟩],0) := by
  have e1 : pR LK JQ = [⟨2,102,2⟩,⟨4,50,2⟩] := kn_2
  have e2 : pW LK JQ = [] := rfl
  have e3 : pOk LK JQ = true := kn_1
  rw [split_yes (codeP_0 (by decide +kernel) (by decide +kernel) e3 (by rw [e1,e2]; decide)),parts_no (by decide),e1,e2]; rfl
theorem kj_s2 : splitP FJ LK JQ2 = ([⟨⟨16,101,1,0,0,[],[5],0,0⟩,true⟩],0) := by
  have e1 : pR LK JQ2 = [] := rfl
  have e2 : pW LK JQ2 = [⟨1,101,1⟩] := kn_9
  have e3 : pOk LK JQ2 = true := kn_8
  rw [split_yes (codeP_0 (by decide +kernel) (by decide +kernel) e3 (by rw [e1,e2]; decide)),parts_no (by decide),e1,e2]; rfl
abbrev JR (l : List UInt16) : TReply := ⟨3,0,0,0,0,[],l,0,0,[]⟩
theorem kj_go {q : TRequest} {ps : List TPart} {rs : List TReply} (h : splitP FJ LK q = (ps,0)) (h2 : locP q.fn = false) : joinV FJ LK q rs = match codeJ (rs.take ps.length) with
    | some r => refuseR q.fn r.code
    | none => if rs.length < ps.length ∨ anyJ ps (rs.take ps.length) = true then refuseR q.fn 4 else wholeJ q (bitsJ ps (rs.take ps.length)) (valsJ ps (rs.take ps.length)) := by
  unfold joinV; rw [if_neg (by rw [← split_code,h]; simp),if_neg (by rw [h2]; decide),h]
  rfl
theorem kj_1 : joinV FJ LK JQ [JR [1,2],JR [3,4]] = JR [1,2,3,4] := by rw [kj_go kj_s1 rfl]; decide +kernel
theorem kj_2 : joinV FJ LK JQ [JR [1,2]] = refuseR 3 4 := by rw [kj_go kj_s1 rfl]; decide +kernel
theorem kj_3 : joinV FJ LK JQ [JR [1,2],⟨3,11,0,0,0,[],[],0,0,[]⟩] = refuseR 3 11 := by rw [kj_go kj_s1 rfl]; decide +kernel
theorem kj_4 : joinV FJ LK ⟨8,0,0,0,0,[],[1],0,0⟩ [] = refuseR 8 4 := join_loc (codeP_0 (by decide +kernel) (by decide +kernel) rfl (by decide)) rfl
theorem kj_5 : joinV FJ LK JQ2 [⟨16,0,101,1,0,[],[],0,0,[]⟩,⟨3,9,0,0,0,[],[],0,0,[]⟩] = ⟨16,0,1,1,0,[],[],0,0,[]⟩ := by rw [kj_go kj_s2 rfl]; decide +kernel
theorem kj_6 : joinV FJ LK JQ [JR [1,2],JR [3]] = refuseR 3 4 := by rw [kj_go kj_s1 rfl]; decide +kernel
end Go.Proofs.Ytlcmbkkimgdnmaa
set_option linter.unusedVariables false
set_option linter.unusedSimpArgs false
set_option maxRecDepth 10000
set_option maxHeartbeats 1000000
namespace Go.Proofs.Ytlcmbkkimgdnmaa
open Go Go.Proofs.Ytlcmbkkimgdnmaa.Pv
theorem w_burgagelaw15_known   :
    T Try.prog 25 [] 0 [] (Ret (pB true) 0 []) := by
 refine t_fun tabOk (n := 98) (rs := [.tmp 0]) Try.func25 rfl rfl rfl rfl (Nat.le_of_ble_eq_true rfl) ?_
 intro c hnt hk
 refine w_seq (w_R (qa hnt rfl rfl (r_end (q_then (w_seq ?_)))))
 refine w_R (xp hnt 2 [.o 2] [] [(9,PV.f (.agg [encI 3,encI 0,encI 100,encI 4])),(10,PV.f (.agg [encI 3,encI 4,encI 50,encI 4]))] (qo hnt rfl (s_mkM (f := eWindow) [(⟨3,0,100,4⟩ : TWindow),(⟨3,4,50,4⟩ : TWindow)] tab_23 rfl tab_42 ⟨rfl,by decide⟩ (by decide) rfl rfl rfl rfl ?_)))
 refine xm hnt 3 [.o 3] [] [(1,PV.ptr 1 0)] 2 [(1,.obj [pI 1,pK .u32 65800,pI 0,PV.ref 0 0 none,pNil]),(0,oB true 4 eWindow [(⟨3,0,100,4⟩ : TWindow),(⟨3,4,50,4⟩ : TWindow)])] (r_end (q_then (w_seq (w_H (H' := [(1,.obj [pI 1,pK .u32 65800,pI 0,PV.ref 0 0 none,pNil]),(0,oB true 4 eWindow LK)]) (congrArg (fun z => ([(1,.obj [pI 1,pK .u32 65800,pI 0,PV.ref 0 0 none,pNil]),(0,oB true 4 eWindow z)] : Heap)) (show [(⟨3,0,100,4⟩ : TWindow),(⟨3,4,50,4⟩ : TWindow)] = LK by rfl)) (w_R ?_)))))
 refine xm hnt 3 [.o 3] [] [(2,PV.ptr 2 0)] 3 [(2,.obj [pI 3,pI 2,pI 4,pI 0,pI 0,pNil,pNil,p16 0,p16 0]),(1,.obj [pI 1,pK .u32 65800,pI 0,PV.ref 0 0 none,pNil]),(0,oB true 4 eWindow LK)] (r_end (q_then (w_seq (w_R (qo hnt rfl (s_load_ptr tab_26 rfl rfl rfl (Nat.le_of_ble_eq_true rfl) ?_))))))
 refine qo hnt rfl (s_load_ptr tab_37 rfl rfl rfl (Nat.le_of_ble_eq_true rfl) ?_)
 refine qo hnt rfl (s_mkM (f := enc16) ([1,2] : List UInt16) tab_34 rfl tab_35 ⟨rfl,by decide⟩ (by decide) rfl rfl rfl rfl ?_)
 refine xp hnt 1 [.o 1] [] [(17,PV.agg [pI 3,pI 0,pI 0,pI 0,pI 0,pNil,PV.ref 3 0 none,p16 0,p16 0,pNil])] (qo hnt rfl (s_mkM (f := enc16) ([3,4] : List UInt16) tab_34 rfl tab_35 ⟨rfl,by decide⟩ (by decide) rfl rfl rfl rfl ?_))
 refine xp hnt 1 [.o 1] [] [(19,PV.agg [pI 3,pI 0,pI 0,pI 0,pI 0,pNil,PV.ref 4 0 none,p16 0,p16 0,pNil])] (r_frz (s := 17) rfl rfl (r_le (s := 17) (y := PV.f (eReply (⟨3,0,0,0,0,[],([1,2] : List UInt16),0,0,[]⟩ : TReply))) rfl (le_F (FLe.agg ⟨FLe.refl _,FLe.refl _,FLe.refl _,FLe.refl _,FLe.refl _,FLe.nil 1 false,FLe.refl _,FLe.refl _,FLe.refl _,FLe.nil 1 false,trivial⟩)) (r_frz (s := 19) rfl rfl (r_le (s := 19) (y := PV.f (eReply (⟨3,0,0,0,0,[],([3,4] : List UInt16),0,0,[]⟩ : TReply))) rfl (le_F (FLe.agg ⟨FLe.refl _,FLe.refl _,FLe.refl _,FLe.refl _,FLe.refl _,FLe.nil 1 false,FLe.refl _,FLe.refl _,FLe.refl _,FLe.nil 1 false,trivial⟩)) (qo hnt rfl (s_mkM (f := eReply) [(⟨3,0,0,0,0,[],([1,2] : List UInt16),0,0,[]⟩ : TReply),(⟨3,0,0,0,0,[],([3,4] : List UInt16),0,0,[]⟩ : TReply)] tab_58 rfl tab_62 ⟨rfl,by decide⟩ (by decide) rfl rfl rfl rfl ?_))))))
 obtain ⟨J1,hJ1⟩ : ∃ z : TReply,z = joinV (⟨1,65800,0,LK,[]⟩ : TTenant).functions (⟨1,65800,0,LK,[]⟩ : TTenant).windows (⟨3,2,4,0,0,[],[],0,0⟩ : TRequest) ([(⟨3,0,0,0,0,[],([1,2] : List UInt16),0,0,[]⟩ : TReply),(⟨3,0,0,0,0,[],([3,4] : List UInt16),0,0,[]⟩ : TReply)]) := ⟨_,rfl⟩
 refine qo hnt rfl (s_callK 6 (PV.f (eReply J1)) [(5,oB false 10 eReply ([(⟨3,0,0,0,0,[],([1,2] : List UInt16),0,0,[]⟩ : TReply),(⟨3,0,0,0,0,[],([3,4] : List UInt16),0,0,[]⟩ : TReply)])),(0,oB false 4 eWindow LK),(4,oB false 1 enc16 ([3,4] : List UInt16)),(3,oB false 1 enc16 ([1,2] : List UInt16)),(2,.obj [pI 3,pI 2,pI 4,pI 0,pI 0,pNil,pNil,p16 0,p16 0]),(1,.obj [pI 1,pK .u32 65800,pI 0,PV.ref 0 0 none,pNil])] [] (T.leL (args := [PV.f (.agg [encI 1,FV.v (.int .u32 65800),encI 0,FV.sl 4 false (List.map eWindow LK),FV.v (.slice none 0 0)]),PV.f (.agg [encI 3,encI 2,encI 4,encI 0,encI 0,FV.v (.slice none 0 0),FV.v (.slice none 0 0),enc16 0,enc16 0]),pS 10 false eReply ([(⟨3,0,0,0,0,[],([1,2] : List UInt16),0,0,[]⟩ : TReply),(⟨3,0,0,0,0,[],([3,4] : List UInt16),0,0,[]⟩ : TReply)])]) (args' := [PV.f (eTenant (⟨1,65800,0,LK,[]⟩ : TTenant)),PV.f (eRequest (⟨3,2,4,0,0,[],[],0,0⟩ : TRequest)),pS 10 false eReply ([(⟨3,0,0,0,0,[],([1,2] : List UInt16),0,0,[]⟩ : TReply),(⟨3,0,0,0,0,[],([3,4] : List UInt16),0,0,[]⟩ : TReply)])]) ⟨le_F (FLe.agg ⟨FLe.refl _,FLe.refl _,FLe.refl _,FLe.refl _,FLe.nil 2 false,trivial⟩),⟨le_F (FLe.agg ⟨FLe.refl _,FLe.refl _,FLe.refl _,FLe.refl _,FLe.refl _,FLe.nil 1 false,FLe.nil 1 false,FLe.refl _,FLe.refl _,trivial⟩),⟨le_refl _,trivial⟩⟩⟩ (w_join_Reply (⟨1,65800,0,LK,[]⟩ : TTenant) (⟨3,2,4,0,0,[],[],0,0⟩ : TRequest) ([(⟨3,0,0,0,0,[],([1,2] : List UInt16),0,0,[]⟩ : TReply),(⟨3,0,0,0,0,[],([3,4] : List UInt16),0,0,[]⟩ : TReply)]) false J1 hJ1 (by decide) (by decide) (by decide) (by decide) (by decide))) ?_)
 refine qo hnt rfl (s_alloc tab_62 ?_)
 refine qo hnt rfl (s_store_ptr tab_62 rfl rfl rfl rfl rfl (Nat.le_of_ble_eq_true rfl) ?_)
 refine r_set [(1,PV.ptr 1 0),(2,PV.ptr 2 0),(3,PV.ptr 6 0)] [(6,.obj (cReply J1)),(5,oB false 10 eReply ([(⟨3,0,0,0,0,[],([1,2] : List UInt16),0,0,[]⟩ : TReply),(⟨3,0,0,0,0,[],([3,4] : List UInt16),0,0,[]⟩ : TReply)])),(0,oB false 4 eWindow LK),(4,oB false 1 enc16 ([3,4] : List UInt16)),(3,oB false 1 enc16 ([1,2] : List UInt16)),(2,.obj [pI 3,pI 2,pI 4,pI 0,pI 0,pNil,pNil,p16 0,p16 0]),(1,.obj [pI 1,pK .u32 65800,pI 0,PV.ref 0 0 none,pNil])] 7 ⟨rfl,rfl,rfl,trivial⟩ rfl rfl (r_end (q_then (w_seq (w_R (qo hnt rfl (s_load_ptr tab_26 rfl rfl rfl (Nat.le_of_ble_eq_true rfl) ?_))))))
 refine qo hnt rfl (s_load_ptr tab_37 rfl rfl rfl (Nat.le_of_ble_eq_true rfl) ?_)
 refine qo hnt rfl (s_mkM (f := enc16) ([1,2] : List UInt16) tab_34 rfl tab_35 ⟨rfl,by decide⟩ (by decide) rfl rfl rfl rfl ?_)
 refine xp hnt 1 [.o 1] [] [(25,PV.agg [pI 3,pI 0,pI 0,pI 0,pI 0,pNil,PV.ref 7 0 none,p16 0,p16 0,pNil])] (r_frz (s := 25) rfl rfl (r_le (s := 25) (y := PV.f (eReply (⟨3,0,0,0,0,[],([1,2] : List UInt16),0,0,[]⟩ : TReply))) rfl (le_F (FLe.agg ⟨FLe.refl _,FLe.refl _,FLe.refl _,FLe.refl _,FLe.refl _,FLe.nil 1 false,FLe.refl _,FLe.refl _,FLe.refl _,FLe.nil 1 false,trivial⟩)) (qo hnt rfl (s_mkM (f := eReply) [(⟨3,0,0,0,0,[],([1,2] : List UInt16),0,0,[]⟩ : TReply)] tab_58 rfl tab_62 ⟨rfl,by decide⟩ (by decide) rfl rfl rfl rfl ?_))))
 obtain ⟨J2,hJ2⟩ : ∃ z : TReply,z = joinV (⟨1,65800,0,LK,[]⟩ : TTenant).functions (⟨1,65800,0,LK,[]⟩ : TTenant).windows (⟨3,2,4,0,0,[],[],0,0⟩ : TRequest) ([(⟨3,0,0,0,0,[],([1,2] : List UInt16),0,0,[]⟩ : TReply)]) := ⟨_,rfl⟩
 refine qo hnt rfl (s_callK 9 (PV.f (eReply J2)) [(8,oB false 10 eReply ([(⟨3,0,0,0,0,[],([1,2] : List UInt16),0,0,[]⟩ : TReply)])),(0,oB false 4 eWindow LK),(7,oB false 1 enc16 ([1,2] : List UInt16)),(6,.obj (cReply J1)),(5,oB false 10 eReply ([(⟨3,0,0,0,0,[],([1,2] : List UInt16),0,0,[]⟩ : TReply),(⟨3,0,0,0,0,[],([3,4] : List UInt16),0,0,[]⟩ : TReply)])),(4,oB false 1 enc16 ([3,4] : List UInt16)),(3,oB false 1 enc16 ([1,2] : List UInt16)),(2,.obj [pI 3,pI 2,pI 4,pI 0,pI 0,pNil,pNil,p16 0,p16 0]),(1,.obj [pI 1,pK .u32 65800,pI 0,PV.ref 0 0 none,pNil])] [] (T.leL (args := [PV.f (.agg [encI 1,FV.v (.int .u32 65800),encI 0,FV.sl 4 false (List.map eWindow LK),FV.v (.slice none 0 0)]),PV.f (.agg [encI 3,encI 2,encI 4,encI 0,encI 0,FV.v (.slice none 0 0),FV.v (.slice none 0 0),enc16 0,enc16 0]),pS 10 false eReply ([(⟨3,0,0,0,0,[],([1,2] : List UInt16),0,0,[]⟩ : TReply)])]) (args' := [PV.f (eTenant (⟨1,65800,0,LK,[]⟩ : TTenant)),PV.f (eRequest (⟨3,2,4,0,0,[],[],0,0⟩ : TRequest)),pS 10 false eReply ([(⟨3,0,0,0,0,[],([1,2] : List UInt16),0,0,[]⟩ : TReply)])]) ⟨le_F (FLe.agg ⟨FLe.refl _,FLe.refl _,FLe.refl _,FLe.refl _,FLe.nil 2 false,trivial⟩),⟨le_F (FLe.agg ⟨FLe.refl _,FLe.refl _,FLe.refl _,FLe.refl _,FLe.refl _,FLe.nil 1 false,FLe.nil 1 false,FLe.refl _,FLe.refl _,trivial⟩),⟨le_refl _,trivial⟩⟩⟩ (w_join_Reply (⟨1,65800,0,LK,[]⟩ : TTenant) (⟨3,2,4,0,0,[],[],0,0⟩ : TRequest) ([(⟨3,0,0,0,0,[],([1,2] : List UInt16),0,0,[]⟩ : TReply)]) false J2 hJ2 (by decide) (by decide) (by decide) (by decide) (by decide))) ?_)
 refine qo hnt rfl (s_alloc tab_62 ?_)
 refine qo hnt rfl (s_store_ptr tab_62 rfl rfl rfl rfl rfl (Nat.le_of_ble_eq_true rfl) ?_)
 refine r_set [(1,PV.ptr 1 0),(2,PV.ptr 2 0),(3,PV.ptr 6 0),(4,PV.ptr 9 0)] [(9,.obj (cReply J2)),(8,oB false 10 eReply ([(⟨3,0,0,0,0,[],([1,2] : List UInt16),0,0,[]⟩ : TReply)])),(0,oB false 4 eWindow LK),(7,oB false 1 enc16 ([1,2] : List UInt16)),(6,.obj (cReply J1)),(5,oB false 10 eReply ([(⟨3,0,0,0,0,[],([1,2] : List UInt16),0,0,[]⟩ : TReply),(⟨3,0,0,0,0,[],([3,4] : List UInt16),0,0,[]⟩ : TReply)])),(4,oB false 1 enc16 ([3,4] : List UInt16)),(3,oB false 1 enc16 ([1,2] : List UInt16)),(2,.obj [pI 3,pI 2,pI 4,pI 0,pI 0,pNil,pNil,p16 0,p16 0]),(1,.obj [pI 1,pK .u32 65800,pI 0,PV.ref 0 0 none,pNil])] 10 ⟨rfl,rfl,rfl,rfl,trivial⟩ rfl rfl (r_end (q_then (w_seq (w_R (qo hnt rfl (s_load_ptr tab_26 rfl rfl rfl (Nat.le_of_ble_eq_true rfl) ?_))))))
 refine qo hnt rfl (s_load_ptr tab_37 rfl rfl rfl (Nat.le_of_ble_eq_true rfl) ?_)
 refine qo hnt rfl (s_mkM (f := enc16) ([1,2] : List UInt16) tab_34 rfl tab_35 ⟨rfl,by decide⟩ (by decide) rfl rfl rfl rfl ?_)
 refine xp hnt 2 [.o 2] [] [(31,PV.agg [pI 3,pI 0,pI 0,pI 0,pI 0,pNil,PV.ref 10 0 none,p16 0,p16 0,pNil]),(32,PV.f (.agg [encI 3,encI 11,encI 0,encI 0,encI 0,FV.v (.slice none 0 0),FV.v (.slice none 0 0),enc16 0,enc16 0,FV.v (.slice none 0 0)]))] (r_frz (s := 31) rfl rfl (r_le (s := 31) (y := PV.f (eReply (⟨3,0,0,0,0,[],([1,2] : List UInt16),0,0,[]⟩ : TReply))) rfl (le_F (FLe.agg ⟨FLe.refl _,FLe.refl _,FLe.refl _,FLe.refl _,FLe.refl _,FLe.nil 1 false,FLe.refl _,FLe.refl _,FLe.refl _,FLe.nil 1 false,trivial⟩)) (r_le (s := 32) (y := PV.f (eReply (⟨3,11,0,0,0,[],[],0,0,[]⟩ : TReply))) rfl (le_F (FLe.agg ⟨FLe.refl _,FLe.refl _,FLe.refl _,FLe.refl _,FLe.refl _,FLe.nil 1 false,FLe.nil 1 false,FLe.refl _,FLe.refl _,FLe.nil 1 false,trivial⟩)) (qo hnt rfl (s_mkM (f := eReply) [(⟨3,0,0,0,0,[],([1,2] : List UInt16),0,0,[]⟩ : TReply),(⟨3,11,0,0,0,[],[],0,0,[]⟩ : TReply)] tab_58 rfl tab_62 ⟨rfl,by decide⟩ (by decide) rfl rfl rfl rfl ?_)))))
 obtain ⟨J3,hJ3⟩ : ∃ z : TReply,z = joinV (⟨1,65800,0,LK,[]⟩ : TTenant).functions (⟨1,65800,0,LK,[]⟩ : TTenant).windows (⟨3,2,4,0,0,[],[],0,0⟩ : TRequest) ([(⟨3,0,0,0,0,[],([1,2] : List UInt16),0,0,[]⟩ : TReply),(⟨3,11,0,0,0,[],[],0,0,[]⟩ : TReply)]) := ⟨_,rfl⟩
 refine qo hnt rfl (s_callK 12 (PV.f (eReply J3)) [(11,oB false 10 eReply ([(⟨3,0,0,0,0,[],([1,2] : List UInt16),0,0,[]⟩ : TReply),(⟨3,11,0,0,0,[],[],0,0,[]⟩ : TReply)])),(0,oB false 4 eWindow LK),(10,oB false 1 enc16 ([1,2] : List UInt16)),(9,.obj (cReply J2)),(8,oB false 10 eReply ([(⟨3,0,0,0,0,[],([1,2] : List UInt16),0,0,[]⟩ : TReply)])),(7,oB false 1 enc16 ([1,2] : List UInt16)),(6,.obj (cReply J1)),(5,oB false 10 eReply ([(⟨3,0,0,0,0,[],([1,2] : List UInt16),0,0,[]⟩ : TReply),(⟨3,0,0,0,0,[],([3,4] : List UInt16),0,0,[]⟩ : TReply)])),(4,oB false 1 enc16 ([3,4] : List UInt16)),(3,oB false 1 enc16 ([1,2] : List UInt16)),(2,.obj [pI 3,pI 2,pI 4,pI 0,pI 0,pNil,pNil,p16 0,p16 0]),(1,.obj [pI 1,pK .u32 65800,pI 0,PV.ref 0 0 none,pNil])] [] (T.leL (args := [PV.f (.agg [encI 1,FV.v (.int .u32 65800),encI 0,FV.sl 4 false (List.map eWindow LK),FV.v (.slice none 0 0)]),PV.f (.agg [encI 3,encI 2,encI 4,encI 0,encI 0,FV.v (.slice none 0 0),FV.v (.slice none 0 0),enc16 0,enc16 0]),pS 10 false eReply ([(⟨3,0,0,0,0,[],([1,2] : List UInt16),0,0,[]⟩ : TReply),(⟨3,11,0,0,0,[],[],0,0,[]⟩ : TReply)])]) (args' := [PV.f (eTenant (⟨1,65800,0,LK,[]⟩ : TTenant)),PV.f (eRequest (⟨3,2,4,0,0,[],[],0,0⟩ : TRequest)),pS 10 false eReply ([(⟨3,0,0,0,0,[],([1,2] : List UInt16),0,0,[]⟩ : TReply),(⟨3,11,0,0,0,[],[],0,0,[]⟩ : TReply)])]) ⟨le_F (FLe.agg ⟨FLe.refl _,FLe.refl _,FLe.refl _,FLe.refl _,FLe.nil 2 false,trivial⟩),⟨le_F (FLe.agg ⟨FLe.refl _,FLe.refl _,FLe.refl _,FLe.refl _,FLe.refl _,FLe.nil 1 false,FLe.nil 1 false,FLe.refl _,FLe.refl _,trivial⟩),⟨le_refl _,trivial⟩⟩⟩ (w_join_Reply (⟨1,65800,0,LK,[]⟩ : TTenant) (⟨3,2,4,0,0,[],[],0,0⟩ : TRequest) ([(⟨3,0,0,0,0,[],([1,2] : List UInt16),0,0,[]⟩ : TReply),(⟨3,11,0,0,0,[],[],0,0,[]⟩ : TReply)]) false J3 hJ3 (by decide) (by decide) (by decide) (by decide) (by decide))) ?_)
 refine qo hnt rfl (s_alloc tab_62 ?_)
 refine qo hnt rfl (s_store_ptr tab_62 rfl rfl rfl rfl rfl (Nat.le_of_ble_eq_true rfl) ?_)
 refine r_set [(1,PV.ptr 1 0),(2,PV.ptr 2 0),(3,PV.ptr 6 0),(4,PV.ptr 9 0),(5,PV.ptr 12 0)] [(12,.obj (cReply J3)),(11,oB false 10 eReply ([(⟨3,0,0,0,0,[],([1,2] : List UInt16),0,0,[]⟩ : TReply),(⟨3,11,0,0,0,[],[],0,0,[]⟩ : TReply)])),(0,oB false 4 eWindow LK),(10,oB false 1 enc16 ([1,2] : List UInt16)),(9,.obj (cReply J2)),(8,oB false 10 eReply ([(⟨3,0,0,0,0,[],([1,2] : List UInt16),0,0,[]⟩ : TReply)])),(7,oB false 1 enc16 ([1,2] : List UInt16)),(6,.obj (cReply J1)),(5,oB false 10 eReply ([(⟨3,0,0,0,0,[],([1,2] : List UInt16),0,0,[]⟩ : TReply),(⟨3,0,0,0,0,[],([3,4] : List UInt16),0,0,[]⟩ : TReply)])),(4,oB false 1 enc16 ([3,4] : List UInt16)),(3,oB false 1 enc16 ([1,2] : List UInt16)),(2,.obj [pI 3,pI 2,pI 4,pI 0,pI 0,pNil,pNil,p16 0,p16 0]),(1,.obj [pI 1,pK .u32 65800,pI 0,PV.ref 0 0 none,pNil])] 13 ⟨rfl,rfl,rfl,rfl,rfl,trivial⟩ rfl rfl (r_end (q_then (w_seq (w_R (qo hnt rfl (s_load_ptr tab_26 rfl rfl rfl (Nat.le_of_ble_eq_true rfl) ?_))))))
 refine qo hnt rfl (s_mkM (f := enc16) ([1] : List UInt16) tab_34 rfl tab_35 ⟨rfl,by decide⟩ (by decide) rfl rfl rfl rfl ?_)
 refine xp hnt 1 [.o 1] [] [(37,PV.agg [pI 8,pI 0,pI 0,pI 0,pI 0,pNil,PV.ref 13 0 none,p16 0,p16 0])] ?_
 obtain ⟨J4,hJ4⟩ : ∃ z : TReply,z = joinV (⟨1,65800,0,LK,[]⟩ : TTenant).functions (⟨1,65800,0,LK,[]⟩ : TTenant).windows (⟨8,0,0,0,0,[],([1] : List UInt16),0,0⟩ : TRequest) [] := ⟨_,rfl⟩
 refine qo hnt rfl (s_callK 14 (PV.f (eReply J4)) [(13,oB false 1 enc16 ([1] : List UInt16)),(0,oB false 4 eWindow LK),(12,.obj (cReply J3)),(11,oB false 10 eReply ([(⟨3,0,0,0,0,[],([1,2] : List UInt16),0,0,[]⟩ : TReply),(⟨3,11,0,0,0,[],[],0,0,[]⟩ : TReply)])),(10,oB false 1 enc16 ([1,2] : List UInt16)),(9,.obj (cReply J2)),(8,oB false 10 eReply ([(⟨3,0,0,0,0,[],([1,2] : List UInt16),0,0,[]⟩ : TReply)])),(7,oB false 1 enc16 ([1,2] : List UInt16)),(6,.obj (cReply J1)),(5,oB false 10 eReply ([(⟨3,0,0,0,0,[],([1,2] : List UInt16),0,0,[]⟩ : TReply),(⟨3,0,0,0,0,[],([3,4] : List UInt16),0,0,[]⟩ : TReply)])),(4,oB false 1 enc16 ([3,4] : List UInt16)),(3,oB false 1 enc16 ([1,2] : List UInt16)),(2,.obj [pI 3,pI 2,pI 4,pI 0,pI 0,pNil,pNil,p16 0,p16 0]),(1,.obj [pI 1,pK .u32 65800,pI 0,PV.ref 0 0 none,pNil])] [] (T.leL (args := [PV.f (.agg [encI 1,FV.v (.int .u32 65800),encI 0,FV.sl 4 false (List.map eWindow LK),FV.v (.slice none 0 0)]),PV.f (.agg [encI 8,encI 0,encI 0,encI 0,encI 0,FV.v (.slice none 0 0),FV.sl 1 false (List.map enc16 ([1] : List UInt16)),enc16 0,enc16 0]),pNil]) (args' := [PV.f (eTenant (⟨1,65800,0,LK,[]⟩ : TTenant)),PV.f (eRequest (⟨8,0,0,0,0,[],([1] : List UInt16),0,0⟩ : TRequest)),pS 10 false eReply []]) ⟨le_F (FLe.agg ⟨FLe.refl _,FLe.refl _,FLe.refl _,FLe.refl _,FLe.nil 2 false,trivial⟩),⟨le_F (FLe.agg ⟨FLe.refl _,FLe.refl _,FLe.refl _,FLe.refl _,FLe.refl _,FLe.nil 1 false,FLe.refl _,FLe.refl _,FLe.refl _,trivial⟩),⟨le_F (FLe.nil 10 false),trivial⟩⟩⟩ (w_join_Reply (⟨1,65800,0,LK,[]⟩ : TTenant) (⟨8,0,0,0,0,[],([1] : List UInt16),0,0⟩ : TRequest) [] false J4 hJ4 (by decide) (by decide) (by decide) (by decide) (by decide))) ?_)
 refine qo hnt rfl (s_alloc tab_62 ?_)
 refine qo hnt rfl (s_store_ptr tab_62 rfl rfl rfl rfl rfl (Nat.le_of_ble_eq_true rfl) ?_)
 refine r_set [(1,PV.ptr 1 0),(2,PV.ptr 2 0),(3,PV.ptr 6 0),(4,PV.ptr 9 0),(5,PV.ptr 12 0),(6,PV.ptr 14 0)] [(14,.obj (cReply J4)),(13,oB false 1 enc16 ([1] : List UInt16)),(0,oB false 4 eWindow LK),(12,.obj (cReply J3)),(11,oB false 10 eReply ([(⟨3,0,0,0,0,[],([1,2] : List UInt16),0,0,[]⟩ : TReply),(⟨3,11,0,0,0,[],[],0,0,[]⟩ : TReply)])),(10,oB false 1 enc16 ([1,2] : List UInt16)),(9,.obj (cReply J2)),(8,oB false 10 eReply ([(⟨3,0,0,0,0,[],([1,2] : List UInt16),0,0,[]⟩ : TReply)])),(7,oB false 1 enc16 ([1,2] : List UInt16)),(6,.obj (cReply J1)),(5,oB false 10 eReply ([(⟨3,0,0,0,0,[],([1,2] : List UInt16),0,0,[]⟩ : TReply),(⟨3,0,0,0,0,[],([3,4] : List UInt16),0,0,[]⟩ : TReply)])),(4,oB false 1 enc16 ([3,4] : List UInt16)),(3,oB false 1 enc16 ([1,2] : List UInt16)),(2,.obj [pI 3,pI 2,pI 4,pI 0,pI 0,pNil,pNil,p16 0,p16 0]),(1,.obj [pI 1,pK .u32 65800,pI 0,PV.ref 0 0 none,pNil])] 15 ⟨rfl,rfl,rfl,rfl,rfl,rfl,trivial⟩ rfl rfl (r_end (q_then (w_seq (w_R (qo hnt rfl (s_load_ptr tab_26 rfl rfl rfl (Nat.le_of_ble_eq_true rfl) ?_))))))
 refine qo hnt rfl (s_mkM (f := enc16) ([5] : List UInt16) tab_34 rfl tab_35 ⟨rfl,by decide⟩ (by decide) rfl rfl rfl rfl ?_)
 refine xp hnt 3 [.o 3] [] [(41,PV.agg [pI 16,pI 1,pI 1,pI 0,pI 0,pNil,PV.ref 15 0 none,p16 0,p16 0]),(42,PV.f (.agg [encI 16,encI 0,encI 101,encI 1,encI 0,FV.v (.slice none 0 0),FV.v (.slice none 0 0),enc16 0,enc16 0,FV.v (.slice none 0 0)])),(43,PV.f (.agg [encI 3,encI 9,encI 0,encI 0,encI 0,FV.v (.slice none 0 0),FV.v (.slice none 0 0),enc16 0,enc16 0,FV.v (.slice none 0 0)]))] (r_le (s := 42) (y := PV.f (eReply (⟨16,0,101,1,0,[],[],0,0,[]⟩ : TReply))) rfl (le_F (FLe.agg ⟨FLe.refl _,FLe.refl _,FLe.refl _,FLe.refl _,FLe.refl _,FLe.nil 1 false,FLe.nil 1 false,FLe.refl _,FLe.refl _,FLe.nil 1 false,trivial⟩)) (r_le (s := 43) (y := PV.f (eReply (⟨3,9,0,0,0,[],[],0,0,[]⟩ : TReply))) rfl (le_F (FLe.agg ⟨FLe.refl _,FLe.refl _,FLe.refl _,FLe.refl _,FLe.refl _,FLe.nil 1 false,FLe.nil 1 false,FLe.refl _,FLe.refl _,FLe.nil 1 false,trivial⟩)) (qo hnt rfl (s_mkM (f := eReply) [(⟨16,0,101,1,0,[],[],0,0,[]⟩ : TReply),(⟨3,9,0,0,0,[],[],0,0,[]⟩ : TReply)] tab_58 rfl tab_62 ⟨rfl,by decide⟩ (by decide) rfl rfl rfl rfl ?_))))
 obtain ⟨J5,hJ5⟩ : ∃ z : TReply,z = joinV (⟨1,65800,0,LK,[]⟩ : TTenant).functions (⟨1,65800,0,LK,[]⟩ : TTenant).windows (⟨16,1,1,0,0,[],([5] : List UInt16),0,0⟩ : TRequest) ([(⟨16,0,101,1,0,[],[],0,0,[]⟩ : TReply),(⟨3,9,0,0,0,[],[],0,0,[]⟩ : TReply)]) := ⟨_,rfl⟩
 refine qo hnt rfl (s_callK 17 (PV.f (eReply J5)) [(16,oB false 10 eReply ([(⟨16,0,101,1,0,[],[],0,0,[]⟩ : TReply),(⟨3,9,0,0,0,[],[],0,0,[]⟩ : TReply)])),(15,oB false 1 enc16 ([5] : List UInt16)),(0,oB false 4 eWindow LK),(14,.obj (cReply J4)),(13,oB false 1 enc16 ([1] : List UInt16)),(12,.obj (cReply J3)),(11,oB false 10 eReply ([(⟨3,0,0,0,0,[],([1,2] : List UInt16),0,0,[]⟩ : TReply),(⟨3,11,0,0,0,[],[],0,0,[]⟩ : TReply)])),(10,oB false 1 enc16 ([1,2] : List UInt16)),(9,.obj (cReply J2)),(8,oB false 10 eReply ([(⟨3,0,0,0,0,[],([1,2] : List UInt16),0,0,[]⟩ : TReply)])),(7,oB false 1 enc16 ([1,2] : List UInt16)),(6,.obj (cReply J1)),(5,oB false 10 eReply ([(⟨3,0,0,0,0,[],([1,2] : List UInt16),0,0,[]⟩ : TReply),(⟨3,0,0,0,0,[],([3,4] : List UInt16),0,0,[]⟩ : TReply)])),(4,oB false 1 enc16 ([3,4] : List UInt16)),(3,oB false 1 enc16 ([1,2] : List UInt16)),(2,.obj [pI 3,pI 2,pI 4,pI 0,pI 0,pNil,pNil,p16 0,p16 0]),(1,.obj [pI 1,pK .u32 65800,pI 0,PV.ref 0 0 none,pNil])] [] (T.leL (args := [PV.f (.agg [encI 1,FV.v (.int .u32 65800),encI 0,FV.sl 4 false (List.map eWindow LK),FV.v (.slice none 0 0)]),PV.f (.agg [encI 16,encI 1,encI 1,encI 0,encI 0,FV.v (.slice none 0 0),FV.sl 1 false (List.map enc16 ([5] : List UInt16)),enc16 0,enc16 0]),pS 10 false eReply ([(⟨16,0,101,1,0,[],[],0,0,[]⟩ : TReply),(⟨3,9,0,0,0,[],[],0,0,[]⟩ : TReply)])]) (args' := [PV.f (eTenant (⟨1,65800,0,LK,[]⟩ : TTenant)),PV.f (eRequest (⟨16,1,1,0,0,[],([5] : List UInt16),0,0⟩ : TRequest)),pS 10 false eReply ([(⟨16,0,101,1,0,[],[],0,0,[]⟩ : TReply),(⟨3,9,0,0,0,[],[],0,0,[]⟩ : TReply)])]) ⟨le_F (FLe.agg ⟨FLe.refl _,FLe.refl _,FLe.refl _,FLe.refl _,FLe.nil 2 false,trivial⟩),⟨le_F (FLe.agg ⟨FLe.refl _,FLe.refl _,FLe.refl _,FLe.refl _,FLe.refl _,FLe.nil 1 false,FLe.refl _,FLe.refl _,FLe.refl _,trivial⟩),⟨le_refl _,trivial⟩⟩⟩ (w_join_Reply (⟨1,65800,0,LK,[]⟩ : TTenant) (⟨16,1,1,0,0,[],([5] : List UInt16),0,0⟩ : TRequest) ([(⟨16,0,101,1,0,[],[],0,0,[]⟩ : TReply),(⟨3,9,0,0,0,[],[],0,0,[]⟩ : TReply)]) false J5 hJ5 (by decide) (by decide) (by decide) (by decide) (by decide))) ?_)
 refine qo hnt rfl (s_alloc tab_62 ?_)
 refine qo hnt rfl (s_store_ptr tab_62 rfl rfl rfl rfl rfl (Nat.le_of_ble_eq_true rfl) ?_)
 refine r_set [(1,PV.ptr 1 0),(2,PV.ptr 2 0),(3,PV.ptr 6 0),(4,PV.ptr 9 0),(5,PV.ptr 12 0),(6,PV.ptr 14 0),(7,PV.ptr 17 0)] [(17,.obj (cReply J5)),(16,oB false 10 eReply ([(⟨16,0,101,1,0,[],[],0,0,[]⟩ : TReply),(⟨3,9,0,0,0,[],[],0,0,[]⟩ : TReply)])),(15,oB false 1 enc16 ([5] : List UInt16)),(0,oB false 4 eWindow LK),(14,.obj (cReply J4)),(13,oB false 1 enc16 ([1] : List UInt16)),(12,.obj (cReply J3)),(11,oB false 10 eReply ([(⟨3,0,0,0,0,[],([1,2] : List UInt16),0,0,[]⟩ : TReply),(⟨3,11,0,0,0,[],[],0,0,[]⟩ : TReply)])),(10,oB false 1 enc16 ([1,2] : List UInt16)),(9,.obj (cReply J2)),(8,oB false 10 eReply ([(⟨3,0,0,0,0,[],([1,2] : List UInt16),0,0,[]⟩ : TReply)])),(7,oB false 1 enc16 ([1,2] : List UInt16)),(6,.obj (cReply J1)),(5,oB false 10 eReply ([(⟨3,0,0,0,0,[],([1,2] : List UInt16),0,0,[]⟩ : TReply),(⟨3,0,0,0,0,[],([3,4] : List UInt16),0,0,[]⟩ : TReply)])),(4,oB false 1 enc16 ([3,4] : List UInt16)),(3,oB false 1 enc16 ([1,2] : List UInt16)),(2,.obj [pI 3,pI 2,pI 4,pI 0,pI 0,pNil,pNil,p16 0,p16 0]),(1,.obj [pI 1,pK .u32 65800,pI 0,PV.ref 0 0 none,pNil])] 18 ⟨rfl,rfl,rfl,rfl,rfl,rfl,rfl,trivial⟩ rfl rfl (r_end (q_then (w_seq (w_R (qo hnt rfl (s_load_ptr tab_26 rfl rfl rfl (Nat.le_of_ble_eq_true rfl) ?_))))))
 refine qo hnt rfl (s_load_ptr tab_37 rfl rfl rfl (Nat.le_of_ble_eq_true rfl) ?_)
 refine qo hnt rfl (s_mkM (f := enc16) ([1,2] : List UInt16) tab_34 rfl tab_35 ⟨rfl,by decide⟩ (by decide) rfl rfl rfl rfl ?_)
 refine xp hnt 1 [.o 1] [] [(49,PV.agg [pI 3,pI 0,pI 0,pI 0,pI 0,pNil,PV.ref 18 0 none,p16 0,p16 0,pNil])] (qo hnt rfl (s_mkM (f := enc16) ([3] : List UInt16) tab_34 rfl tab_35 ⟨rfl,by decide⟩ (by decide) rfl rfl rfl rfl ?_))
 refine xp hnt 1 [.o 1] [] [(51,PV.agg [pI 3,pI 0,pI 0,pI 0,pI 0,pNil,PV.ref 19 0 none,p16 0,p16 0,pNil])] (r_frz (s := 49) rfl rfl (r_le (s := 49) (y := PV.f (eReply (⟨3,0,0,0,0,[],([1,2] : List UInt16),0,0,[]⟩ : TReply))) rfl (le_F (FLe.agg ⟨FLe.refl _,FLe.refl _,FLe.refl _,FLe.refl _,FLe.refl _,FLe.nil 1 false,FLe.refl _,FLe.refl _,FLe.refl _,FLe.nil 1 false,trivial⟩)) (r_frz (s := 51) rfl rfl (r_le (s := 51) (y := PV.f (eReply (⟨3,0,0,0,0,[],([3] : List UInt16),0,0,[]⟩ : TReply))) rfl (le_F (FLe.agg ⟨FLe.refl _,FLe.refl _,FLe.refl _,FLe.refl _,FLe.refl _,FLe.nil 1 false,FLe.refl _,FLe.refl _,FLe.refl _,FLe.nil 1 false,trivial⟩)) (qo hnt rfl (s_mkM (f := eReply) [(⟨3,0,0,0,0,[],([1,2] : List UInt16),0,0,[]⟩ : TReply),(⟨3,0,0,0,0,[],([3] : List UInt16),0,0,[]⟩ : TReply)] tab_58 rfl tab_62 ⟨rfl,by decide⟩ (by decide) rfl rfl rfl rfl ?_))))))
 obtain ⟨J6,hJ6⟩ : ∃ z : TReply,z = joinV (⟨1,65800,0,LK,[]⟩ : TTenant).functions (⟨1,65800,0,LK,[]⟩ : TTenant).windows (⟨3,2,4,0,0,[],[],0,0⟩ : TRequest) ([(⟨3,0,0,0,0,[],([1,2] : List UInt16),0,0,[]⟩ : TReply),(⟨3,0,0,0,0,[],([3] : List UInt16),0,0,[]⟩ : TReply)]) := ⟨_,rfl⟩
 refine qo hnt rfl (s_callK 21 (PV.f (eReply J6)) [(20,oB false 10 eReply ([(⟨3,0,0,0,0,[],([1,2] : List UInt16),0,0,[]⟩ : TReply),(⟨3,0,0,0,0,[],([3] : List UInt16),0,0,[]⟩ : TReply)])),(0,oB false 4 eWindow LK),(19,oB false 1 enc16 ([3] : List UInt16)),(18,oB false 1 enc16 ([1,2] : List UInt16)),(17,.obj (cReply J5)),(16,oB false 10 eReply ([(⟨16,0,101,1,0,[],[],0,0,[]⟩ : TReply),(⟨3,9,0,0,0,[],[],0,0,[]⟩ : TReply)])),(15,oB false 1 enc16 ([5] : List UInt16)),(14,.obj (cReply J4)),(13,oB false 1 enc16 ([1] : List UInt16)),(12,.obj (cReply J3)),(11,oB false 10 eReply ([(⟨3,0,0,0,0,[],([1,2] : List UInt16),0,0,[]⟩ : TReply),(⟨3,11,0,0,0,[],[],0,0,[]⟩ : TReply)])),(10,oB false 1 enc16 ([1,2] : List UInt16)),(9,.obj (cReply J2)),(8,oB false 10 eReply ([(⟨3,0,0,0,0,[],([1,2] : List UInt16),0,0,[]⟩ : TReply)])),(7,oB false 1 enc16 ([1,2] : List UInt16)),(6,.obj (cReply J1)),(5,oB false 10 eReply ([(⟨3,0,0,0,0,[],([1,2] : List UInt16),0,0,[]⟩ : TReply),(⟨3,0,0,0,0,[],([3,4] : List UInt16),0,0,[]⟩ : TReply)])),(4,oB false 1 enc16 ([3,4] : List UInt16)),(3,oB false 1 enc16 ([1,2] : List UInt16)),(2,.obj [pI 3,pI 2,pI 4,pI 0,pI 0,pNil,pNil,p16 0,p16 0]),(1,.obj [pI 1,pK .u32 65800,pI 0,PV.ref 0 0 none,pNil])] [] (T.leL (args := [PV.f (.agg [encI 1,FV.v (.int .u32 65800),encI 0,FV.sl 4 false (List.map eWindow LK),FV.v (.slice none 0 0)]),PV.f (.agg [encI 3,encI 2,encI 4,encI 0,encI 0,FV.v (.slice none 0 0),FV.v (.slice none 0 0),enc16 0,enc16 0]),pS 10 false eReply ([(⟨3,0,0,0,0,[],([1,2] : List UInt16),0,0,[]⟩ : TReply),(⟨3,0,0,0,0,[],([3] : List UInt16),0,0,[]⟩ : TReply)])]) (args' := [PV.f (eTenant (⟨1,65800,0,LK,[]⟩ : TTenant)),PV.f (eRequest (⟨3,2,4,0,0,[],[],0,0⟩ : TRequest)),pS 10 false eReply ([(⟨3,0,0,0,0,[],([1,2] : List UInt16),0,0,[]⟩ : TReply),(⟨3,0,0,0,0,[],([3] : List UInt16),0,0,[]⟩ : TReply)])]) ⟨le_F (FLe.agg ⟨FLe.refl _,FLe.refl _,FLe.refl _,FLe.refl _,FLe.nil 2 false,trivial⟩),⟨le_F (FLe.agg ⟨FLe.refl _,FLe.refl _,FLe.refl _,FLe.refl _,FLe.refl _,FLe.nil 1 false,FLe.nil 1 false,FLe.refl _,FLe.refl _,trivial⟩),⟨le_refl _,trivial⟩⟩⟩ (w_join_Reply (⟨1,65800,0,LK,[]⟩ : TTenant) (⟨3,2,4,0,0,[],[],0,0⟩ : TRequest) ([(⟨3,0,0,0,0,[],([1,2] : List UInt16),0,0,[]⟩ : TReply),(⟨3,0,0,0,0,[],([3] : List UInt16),0,0,[]⟩ : TReply)]) false J6 hJ6 (by decide) (by decide) (by decide) (by decide) (by decide))) ?_)
 refine qo hnt rfl (s_alloc tab_62 ?_)
 refine qo hnt rfl (s_store_ptr tab_62 rfl rfl rfl rfl rfl (Nat.le_of_ble_eq_true rfl) ?_)
 refine r_set [(3,PV.ptr 6 0),(4,PV.ptr 9 0),(5,PV.ptr 12 0),(6,PV.ptr 14 0),(7,PV.ptr 17 0),(8,PV.ptr 21 0)] [(21,.obj (cReply J6)),(20,oB false 10 eReply ([(⟨3,0,0,0,0,[],([1,2] : List UInt16),0,0,[]⟩ : TReply),(⟨3,0,0,0,0,[],([3] : List UInt16),0,0,[]⟩ : TReply)])),(0,oB false 4 eWindow LK),(19,oB false 1 enc16 ([3] : List UInt16)),(18,oB false 1 enc16 ([1,2] : List UInt16)),(17,.obj (cReply J5)),(16,oB false 10 eReply ([(⟨16,0,101,1,0,[],[],0,0,[]⟩ : TReply),(⟨3,9,0,0,0,[],[],0,0,[]⟩ : TReply)])),(15,oB false 1 enc16 ([5] : List UInt16)),(14,.obj (cReply J4)),(13,oB false 1 enc16 ([1] : List UInt16)),(12,.obj (cReply J3)),(11,oB false 10 eReply ([(⟨3,0,0,0,0,[],([1,2] : List UInt16),0,0,[]⟩ : TReply),(⟨3,11,0,0,0,[],[],0,0,[]⟩ : TReply)])),(10,oB false 1 enc16 ([1,2] : List UInt16)),(9,.obj (cReply J2)),(8,oB false 10 eReply ([(⟨3,0,0,0,0,[],([1,2] : List UInt16),0,0,[]⟩ : TReply)])),(7,oB false 1 enc16 ([1,2] : List UInt16)),(6,.obj (cReply J1)),(5,oB false 10 eReply ([(⟨3,0,0,0,0,[],([1,2] : List UInt16),0,0,[]⟩ : TReply),(⟨3,0,0,0,0,[],([3,4] : List UInt16),0,0,[]⟩ : TReply)])),(4,oB false 1 enc16 ([3,4] : List UInt16)),(3,oB false 1 enc16 ([1,2] : List UInt16)),(2,.obj [pI 3,pI 2,pI 4,pI 0,pI 0,pNil,pNil,p16 0,p16 0]),(1,.obj [pI 1,pK .u32 65800,pI 0,PV.ref 0 0 none,pNil])] 22 ⟨rfl,rfl,rfl,rfl,rfl,rfl,trivial⟩ rfl rfl (r_end (q_then (w_seq ?_)))
 have ej1 : J1 = JR [1,2,3,4] := hJ1.trans kj_1
 have ej2 : J2 = refuseR 3 4 := hJ2.trans kj_2
 have ej3 : J3 = refuseR 3 11 := hJ3.trans kj_3
 have ej4 : J4 = refuseR 8 4 := hJ4.trans kj_4
 have ej5 : J5 = (⟨16,0,1,1,0,[],[],0,0,[]⟩ : TReply) := hJ5.trans kj_5
 have ej6 : J6 = refuseR 3 4 := hJ6.trans kj_6
 refine w_R (xp hnt 2 [.o 2] [] [(55,pS 1 false enc16 J1.vals)] (qo hnt rfl (s_mkM (f := enc16) ([1,2,3,4] : List UInt16) tab_34 rfl tab_35 ⟨rfl,by decide⟩ (by decide) rfl rfl rfl rfl ?_)))
 refine qo hnt rfl (s_callK 23 (pB (decide (J1.vals = ([1,2,3,4] : List UInt16)))) [(22,oB false 1 enc16 ([1,2,3,4] : List UInt16)),(21,.obj (cReply J6)),(20,oB false 10 eReply ([(⟨3,0,0,0,0,[],([1,2] : List UInt16),0,0,[]⟩ : TReply),(⟨3,0,0,0,0,[],([3] : List UInt16),0,0,[]⟩ : TReply)])),(0,oB false 4 eWindow LK),(19,oB false 1 enc16 ([3] : List UInt16)),(18,oB false 1 enc16 ([1,2] : List UInt16)),(17,.obj (cReply J5)),(16,oB false 10 eReply ([(⟨16,0,101,1,0,[],[],0,0,[]⟩ : TReply),(⟨3,9,0,0,0,[],[],0,0,[]⟩ : TReply)])),(15,oB false 1 enc16 ([5] : List UInt16)),(14,.obj (cReply J4)),(13,oB false 1 enc16 ([1] : List UInt16)),(12,.obj (cReply J3)),(11,oB false 10 eReply ([(⟨3,0,0,0,0,[],([1,2] : List UInt16),0,0,[]⟩ : TReply),(⟨3,11,0,0,0,[],[],0,0,[]⟩ : TReply)])),(10,oB false 1 enc16 ([1,2] : List UInt16)),(9,.obj (cReply J2)),(8,oB false 10 eReply ([(⟨3,0,0,0,0,[],([1,2] : List UInt16),0,0,[]⟩ : TReply)])),(7,oB false 1 enc16 ([1,2] : List UInt16)),(6,.obj (cReply J1)),(5,oB false 10 eReply ([(⟨3,0,0,0,0,[],([1,2] : List UInt16),0,0,[]⟩ : TReply),(⟨3,0,0,0,0,[],([3,4] : List UInt16),0,0,[]⟩ : TReply)])),(4,oB false 1 enc16 ([3,4] : List UInt16)),(3,oB false 1 enc16 ([1,2] : List UInt16)),(2,.obj [pI 3,pI 2,pI 4,pI 0,pI 0,pNil,pNil,p16 0,p16 0]),(1,.obj [pI 1,pK .u32 65800,pI 0,PV.ref 0 0 none,pNil])] [] (w_burgagebook_Same_uint16 J1.vals false ([1,2,3,4] : List UInt16) false (by rw [ej1]; decide)) ?_)
 refine qm hnt rfl rfl (r_if tabOk hnt rfl rfl rfl (fun g1 => ?_) (fun g1 => ?_))
 ·have g1' := g1
  try simp only [sB] at g1'
  refine qo hnt rfl (s_fa_ptr tab_62 rfl rfl tab_3 (by decide) rfl ?_)
  refine r_eq (s := 58) (y := pB true) rfl (congrArg pB g1) (xp hnt 4 [.o 4] [] [(63,pB (decide (J1.code = 0)))] (r_if tabOk hnt rfl rfl rfl (fun g2 => ?_) (fun g2 => ?_)))
  ·have g2' := g2
   try simp only [sB] at g2'
   refine qo hnt rfl (s_fa_ptr tab_62 rfl rfl tab_3 (by decide) rfl ?_)
   refine r_eq (s := 63) (y := pB true) rfl (congrArg pB g2) (xp hnt 4 [.o 4] [] [(68,pB (decide (J1.fn = 3)))] (r_if tabOk hnt rfl rfl rfl (fun g3 => ?_) (fun g3 => ?_)))
   ·have g3' := g3
    try simp only [sB] at g3'
    refine qo hnt rfl (s_fa_ptr tab_62 rfl rfl tab_3 (by decide) rfl ?_)
    refine r_eq (s := 68) (y := pB true) rfl (congrArg pB g3) (xp hnt 4 [.o 4] [] [(73,pB (decide (J2.code = 4)))] (r_if tabOk hnt rfl rfl rfl (fun g4 => ?_) (fun g4 => ?_)))
    ·have g4' := g4
     try simp only [sB] at g4'
     refine qo hnt rfl (s_fa_ptr tab_62 rfl rfl tab_3 (by decide) rfl ?_)
     refine r_eq (s := 73) (y := pB true) rfl (congrArg pB g4) (xp hnt 4 [.o 4] [] [(78,pB (decide (J3.code = 11)))] (r_if tabOk hnt rfl rfl rfl (fun g5 => ?_) (fun g5 => ?_)))
     ·have g5' := g5
      try simp only [sB] at g5'
      refine qo hnt rfl (s_fa_ptr tab_62 rfl rfl tab_3 (by decide) rfl ?_)
      refine r_eq (s := 78) (y := pB true) rfl (congrArg pB g5) (xp hnt 4 [.o 4] [] [(83,pB (decide (J4.code = 4)))] (r_if tabOk hnt rfl rfl rfl (fun g6 => ?_) (fun g6 => ?_)))
      ·have g6' := g6
       try simp only [sB] at g6'
       refine qo hnt rfl (s_fa_ptr tab_62 rfl rfl tab_3 (by decide) rfl ?_)
       refine r_eq (s := 83) (y := pB true) rfl (congrArg pB g6) (xp hnt 4 [.o 4] [] [(88,pB (decide (J4.fn = 8)))] (r_if tabOk hnt rfl rfl rfl (fun g7 => ?_) (fun g7 => ?_)))
       ·have g7' := g7
        try simp only [sB] at g7'
        refine qo hnt rfl (s_load_ptr tab_62 rfl rfl rfl (Nat.le_of_ble_eq_true rfl) ?_)
        refine r_eq (s := 88) (y := pB true) rfl (congrArg pB g7) (xp hnt 1 [.o 1] [] [(90,PV.f (.agg [encI 16,encI 0,encI 1,encI 1,encI 0,FV.v (.slice none 0 0),FV.v (.slice none 0 0),enc16 0,enc16 0,FV.v (.slice none 0 0)]))] (ry hnt rfl rfl rfl rfl (qo hnt rfl (s_callF rfl rfl rfl (T.leL (args := [PV.f (eReply J5),PV.f (.agg [encI 16,encI 0,encI 1,encI 1,encI 0,FV.v (.slice none 0 0),FV.v (.slice none 0 0),enc16 0,enc16 0,FV.v (.slice none 0 0)])]) (args' := [PV.f (eReply J5),PV.f (eReply (⟨16,0,1,1,0,[],[],0,0,[]⟩ : TReply))]) ⟨le_refl _,⟨le_F (FLe.agg ⟨FLe.refl _,FLe.refl _,FLe.refl _,FLe.refl _,FLe.refl _,FLe.nil 1 false,FLe.nil 1 false,FLe.refl _,FLe.refl _,FLe.nil 1 false,trivial⟩),trivial⟩⟩ (w_burgageref3_Alike J5 (⟨16,0,1,1,0,[],[],0,0,[]⟩ : TReply) (by rw [ej5]; decide))) rfl ?_))))
        refine qo hnt rfl (s_pick_t rfl rfl rfl ?_)
        refine qm hnt rfl rfl (r_if tabOk hnt rfl rfl rfl (fun g8 => ?_) (fun g8 => ?_))
        ·have g8' := g8
         try simp only [sB] at g8'
         refine qo hnt rfl (s_fa_ptr tab_62 rfl rfl tab_3 (by decide) rfl ?_)
         refine r_eq (s := 93) (y := pB true) rfl (congrArg pB g8) (xp hnt 4 [.o 4] [] [(0,pB (decide (J6.code = 4)))] (r_set [(0,pB (decide (J6.code = 4)))] [(22,oB false 1 enc16 ([1,2,3,4] : List UInt16)),(21,.obj (cReply J6)),(20,oB false 10 eReply ([(⟨3,0,0,0,0,[],([1,2] : List UInt16),0,0,[]⟩ : TReply),(⟨3,0,0,0,0,[],([3] : List UInt16),0,0,[]⟩ : TReply)])),(0,oB false 4 eWindow LK),(19,oB false 1 enc16 ([3] : List UInt16)),(18,oB false 1 enc16 ([1,2] : List UInt16)),(17,.obj (cReply J5)),(16,oB false 10 eReply ([(⟨16,0,101,1,0,[],[],0,0,[]⟩ : TReply),(⟨3,9,0,0,0,[],[],0,0,[]⟩ : TReply)])),(15,oB false 1 enc16 ([5] : List UInt16)),(14,.obj (cReply J4)),(13,oB false 1 enc16 ([1] : List UInt16)),(12,.obj (cReply J3)),(11,oB false 10 eReply ([(⟨3,0,0,0,0,[],([1,2] : List UInt16),0,0,[]⟩ : TReply),(⟨3,11,0,0,0,[],[],0,0,[]⟩ : TReply)])),(10,oB false 1 enc16 ([1,2] : List UInt16)),(9,.obj (cReply J2)),(8,oB false 10 eReply ([(⟨3,0,0,0,0,[],([1,2] : List UInt16),0,0,[]⟩ : TReply)])),(7,oB false 1 enc16 ([1,2] : List UInt16)),(6,.obj (cReply J1)),(5,oB false 10 eReply ([(⟨3,0,0,0,0,[],([1,2] : List UInt16),0,0,[]⟩ : TReply),(⟨3,0,0,0,0,[],([3,4] : List UInt16),0,0,[]⟩ : TReply)])),(4,oB false 1 enc16 ([3,4] : List UInt16)),(3,oB false 1 enc16 ([1,2] : List UInt16)),(2,.obj [pI 3,pI 2,pI 4,pI 0,pI 0,pNil,pNil,p16 0,p16 0]),(1,.obj [pI 1,pK .u32 65800,pI 0,PV.ref 0 0 none,pNil])] 23 ⟨rfl,trivial⟩ rfl rfl (r_end (q_then (w_le (s := 0) (y := pB true) rfl (le_of_eq (congrArg pB (show (decide (J6.code = 4)) = true by (rw [ej6]; decide)))) ?_)))))
         refine w_ret ?_
         exact fin_plain (ret_tmp rfl ret_nil) rfl rfl ⟨rfl,rfl,rfl⟩
        exact absurd g8 (by (rw [ej5]; decide))
       exact absurd g7 (by (rw [ej4]; decide))
      exact absurd g6 (by (rw [ej4]; decide))
     exact absurd g5 (by (rw [ej3]; decide))
    exact absurd g4 (by (rw [ej2]; decide))
   exact absurd g3 (by (rw [ej1]; decide))
  exact absurd g2 (by (rw [ej1]; decide))
 exact absurd g1 (by (rw [ej1]; decide))
theorem w_burgagelaw15_JoinFails (t : List Int) (cl_t : Bool) (u : List Int) (cl_u : Bool) (v : List Int) (cl_v : Bool) (i : Int) (at0 : Int) (code : Int) (ht : t.length ≤ 70000000000000) (hu : u.length ≤ 70000000000000) (hv0 : v.length ≤ 70000000000000) :
    T Try.prog 10 [pS 1 cl_t encI t,pS 1 cl_u encI u,pS 1 cl_v encI v,pI i,pI at0,pI code] 0 [] (Ret (pB true) 0 []) := by
 refine t_fun tabOk (n := 85) (rs := [.tmp 12]) Try.func10 rfl rfl rfl rfl (Nat.le_of_ble_eq_true rfl) ?_
 intro c hnt hk
 refine w_seq (w_R (qa hnt rfl rfl (r_end (q_then (w_seq ?_)))))
 refine w_R (qm hnt rfl rfl (qm hnt rfl rfl ?_))
 obtain ⟨mk1,hmk1⟩ : ∃ z : Nat,z = (i % 2 ^ 2).toNat := ⟨_,rfl⟩
 have lmk1 : mk1 < 4 := by omega
 refine qo hnt rfl (s_maskZ 2 (by decide) hmk1 rfl rfl (by decide) ?_)
 refine qo hnt rfl (s_callX1 (p := fun (p1 : TTenant) => WinsOk p1.windows) (r2 := fun p1 => PV.f (eTenant p1)) (nx1 := 0) (H2 := []) (H3 := fun p1 => []) [] [] rfl rfl rfl (handed_of (by decide) trivial) rfl rfl rfl rfl rfl rfl (w_burgagelaw15_tenant t cl_t mk1 (by omega) (by omega)) (fun p1 => rfl) (fun p1 => dist_of rfl) (fun p1 => rfl) (fun p1 => rfl) rfl (fun p1 => rfl) (fun p1 hp1 => ?_))
 refine xm hnt 2 [.o 2] [] [(13,PV.ptr 0 0)] 1 [(0,.obj (cTenant p1))] (r_end (q_then (w_seq ?_)))
 have hl1 := hp1.len
 refine w_R (xm hnt 2 [.o 2] [] [] 1 [(0,.obj [pI p1.unit,pK .u32 16777215,pI p1.queue,pS 4 false eWindow p1.windows,pS 2 false eSlot p1.slots])] (r_end (q_then (w_seq (w_R ?_)))))
 refine qm hnt rfl rfl (qo hnt rfl (s_build tab_32 rfl rfl (b_cons rfl tab_28 rfl rfl rfl (Nat.le_of_ble_eq_true rfl) (b_nil ?_))))
 refine qo hnt rfl (s_box rfl rfl ?_)
 refine qo hnt rfl (s_callX2 (p := fun (q1 : TRequest) (b1 : Nat) => rightR q1 = 0 ∧ q1.bits.length ≤ 25 ∧ q1.vals.length ≤ 25 ∧ 0 ≤ q1.count ∧ q1.count ≤ 25) (r2 := fun q1 b1 => PV.f (eRequest q1)) (nx1 := 2) (H2 := [(1,.obj [pS 1 cl_u encI u,pI 0]),(0,.obj [pI p1.unit,pK .u32 16777215,pI p1.queue,pS 4 false eWindow p1.windows,pS 2 false eSlot p1.slots])]) (H3 := fun q1 b1 => [(1,.obj [pS 1 false encI u,pN b1]),(0,.obj [pI p1.unit,pK .u32 16777215,pI p1.queue,pS 4 false eWindow p1.windows,pS 2 false eSlot p1.slots])]) [1] [.obj [pS 1 cl_u encI u,pI 0]] rfl rfl rfl (handed_of (by decide) ⟨rfl,trivial⟩) rfl rfl rfl rfl rfl rfl (w_burgagekeep_Tape_Request u cl_u 0 (by omega)) (fun q1 b1 => rfl) (fun q1 b1 => dist_of rfl) (fun q1 b1 => rfl) (fun q1 b1 => rfl) rfl (fun q1 b1 => rfl) (fun q1 b1 hq1 => ?_))
 refine qo hnt rfl (s_alloc tab_37 ?_)
 refine qo hnt rfl (s_store_ptr tab_37 rfl rfl rfl rfl rfl (Nat.le_of_ble_eq_true rfl) ?_)
 refine r_set [(2,pS 1 cl_v encI v),(4,pI at0),(5,pI code),(13,PV.ptr 0 0),(14,PV.ptr 2 0)] [(2,.obj (cRequest q1)),(1,.obj [pS 1 false encI u,pN b1]),(0,.obj [pI p1.unit,pK .u32 16777215,pI p1.queue,pS 4 false eWindow p1.windows,pS 2 false eSlot p1.slots])] 3 ⟨rfl,rfl,rfl,rfl,rfl,trivial⟩ rfl rfl (r_end (q_then (w_seq ?_)))
 obtain ⟨hr1,hqb1,hqv1,hqc1,hqd1⟩ := hq1
 have hq25 : q1.count ≤ 25 ∧ q1.bits.length ≤ 25 ∧ q1.vals.length ≤ 25 := ⟨hqd1,hqb1,hqv1⟩
 refine w_R (qo hnt rfl (s_load_ptr tab_26 rfl rfl rfl (Nat.le_of_ble_eq_true rfl) ?_))
 refine qo hnt rfl (s_load_ptr tab_37 rfl rfl rfl (Nat.le_of_ble_eq_true rfl) ?_)
 refine qm hnt rfl rfl (qo hnt rfl (s_callK 4 (PV.ref 3 0 none) [(3,oB true 10 eReply (ansGo v true (splitP (⟨p1.unit,16777215,p1.queue,p1.windows,p1.slots⟩ : TTenant).functions (⟨p1.unit,16777215,p1.queue,p1.windows,p1.slots⟩ : TTenant).windows q1).1 0)),(2,.obj (cRequest q1)),(1,.obj [pS 1 false encI u,pN b1]),(0,.obj [pI p1.unit,pK .u32 16777215,pI p1.queue,pS 4 false eWindow p1.windows,pS 2 false eSlot p1.slots])] [] (w_burgagelaw15_answers (⟨p1.unit,16777215,p1.queue,p1.windows,p1.slots⟩ : TTenant) q1 v cl_v true (by (simp only [List.length_take]; omega)) (by omega) (by omega) (by omega) (by exact part_small hq25)) ?_))
 refine qa hnt rfl rfl (r_set [(4,pI at0),(5,pI code),(13,PV.ptr 0 0),(14,PV.ptr 2 0),(15,PV.ref 3 0 none)] [(3,oB true 10 eReply (ansGo v true (splitP (⟨p1.unit,16777215,p1.queue,p1.windows,p1.slots⟩ : TTenant).functions (⟨p1.unit,16777215,p1.queue,p1.windows,p1.slots⟩ : TTenant).windows q1).1 0)),(2,.obj (cRequest q1)),(1,.obj [pS 1 false encI u,pN b1]),(0,.obj [pI p1.unit,pK .u32 16777215,pI p1.queue,pS 4 false eWindow p1.windows,pS 2 false eSlot p1.slots])] 4 ⟨rfl,rfl,rfl,rfl,rfl,trivial⟩ rfl rfl (r_end (q_then (w_seq (w_seq ?_)))))
 obtain ⟨A,hA⟩ : ∃ z,z = ansGo v true (splitP 16777215 p1.windows q1).1 0 := ⟨_,rfl⟩
 refine w_H (H' := [(3,oB true 10 eReply A),(2,.obj (cRequest q1)),(1,.obj [pS 1 false encI u,pN b1]),(0,.obj [pI p1.unit,pK .u32 16777215,pI p1.queue,pS 4 false eWindow p1.windows,pS 2 false eSlot p1.slots])]) (congrArg (fun z => ([(3,oB true 10 eReply z),(2,.obj (cRequest q1)),(1,.obj [pS 1 false encI u,pN b1]),(0,.obj [pI p1.unit,pK .u32 16777215,pI p1.queue,pS 4 false eWindow p1.windows,pS 2 false eSlot p1.slots])] : Heap)) (show (ansGo v true (splitP (⟨p1.unit,16777215,p1.queue,p1.windows,p1.slots⟩ : TTenant).functions (⟨p1.unit,16777215,p1.queue,p1.windows,p1.slots⟩ : TTenant).windows q1).1 0) = A by exact hA.symm)) ?_
 have hAl : A.length = (splitP 16777215 p1.windows q1).1.length := by rw [hA,ansT_len]
 have hA6 := (split_len 16777215 p1.windows q1).1
 have hfw : Few A := by rw [hA]; exact ansJ_rows hq25
 refine w_R (qm hnt rfl rfl (qo hnt rfl (s_lenM (l := A) tab_58 rfl (hM_ref0 (f := eReply) rfl rfl) ?_)))
 refine qo hnt rfl (s_eql rfl rfl ?_)
 refine r_end (q_then (w_if rfl (fun c1 => ?_) (fun c1 => ?_)))
 ·try simp only [sB] at c1
  refine w_seq (w_R (qo hnt rfl (s_callF rfl rfl rfl (w_burgagelaw15_known) rfl ?_)))
  refine qa hnt rfl rfl (r_end (q_then (w_ret (q_then_ret ?_))))
  exact fin_plain (ret_tmp rfl ret_nil) rfl rfl ⟨rfl,rfl,rfl⟩
 try simp only [sB] at c1
 refine w_skip (q_then (w_seq ?_))
 have hw1 := within_between at0 (lo := 0) (hi := ((A.length : Nat) : Int) - 1) (by omega)
 have hw2 := within_between code (lo := 0) (hi := 200) (by decide)
 refine w_R (xp hnt 4 [.o 2,.c (pN A.length),.o 1] [lenC eReply A,okI (((A.length : Nat) : Int) - 1)] [(38,pI at0),(41,pI (((A.length : Nat) : Int) - 1))] ?_ (hc := ⟨lenC_ok _ _,by unfold okI; (omega),trivial⟩))
 refine qo hnt rfl (s_callF rfl rfl rfl (w_burgagebook_Within at0 0 (((A.length : Nat) : Int) - 1) (by omega)) rfl ?_)
 refine qm hnt rfl rfl (qo hnt rfl (s_callF rfl rfl rfl (w_burgagebook_Within code 0 200 (by omega)) rfl ?_))
 refine qo hnt rfl (s_addi (r := 1 + (within code 0 200)) rfl rfl rfl (by omega) ?_)
 refine qa hnt rfl rfl (qa hnt rfl rfl (r_end (q_then (w_seq ?_))))
 obtain ⟨kk,hkk⟩ : ∃ z : Nat,(z : Int) = within at0 0 (((A.length : Nat) : Int) - 1) := ⟨(within at0 0 (((A.length : Nat) : Int) - 1)).toNat,by omega⟩
 refine w_eq (s := 16) (y := pN kk) rfl (congrArg pI (show (within at0 0 (((A.length : Nat) : Int) - 1)) = ((kk : Nat) : Int) by exact hkk.symm)) ?_
 obtain ⟨cc,hcc⟩ : ∃ z : Int,z = 1 + within code 0 200 := ⟨_,rfl⟩
 refine w_eq (s := 17) (y := pI cc) rfl (congrArg pI (show (1 + (within code 0 200)) = cc by exact hcc.symm)) (w_R (qo hnt rfl (s_mkM (f := eReply) ([] : List TReply) tab_58 rfl tab_62 ⟨rfl,by decide⟩ (by decide) rfl rfl rfl rfl ?_)))
 refine qm hnt rfl rfl (qo hnt rfl (s_appR0 (f := eReply) (l := ([] : List TReply)) (xs := A) tab_58 rfl tab_62 ⟨rfl,by decide,by decide⟩ (srcM tab_58 rfl (hM_ref0 (f := eReply) rfl rfl)) rfl rfl (by (simp; omega)) ?_))
 refine qa hnt rfl rfl (r_set [(13,PV.ptr 0 0),(14,PV.ptr 2 0),(15,PV.ref 3 0 none),(16,pN kk),(17,pI cc),(18,PV.ref 5 0 none)] [(5,oB true 10 eReply A),(3,oB true 10 eReply A),(2,.obj (cRequest q1)),(1,.obj [pS 1 false encI u,pN b1]),(0,.obj [pI p1.unit,pK .u32 16777215,pI p1.queue,pS 4 false eWindow p1.windows,pS 2 false eSlot p1.slots])] 6 ⟨rfl,rfl,rfl,rfl,rfl,rfl,trivial⟩ rfl rfl (r_end (q_then (w_seq (w_R ?_)))))
 refine qm hnt rfl rfl (qm hnt rfl rfl (qm hnt rfl rfl (qm hnt rfl rfl (qo hnt rfl (s_iaR0 (q := kk) (f := eReply) (l := A) tab_58 rfl tab_62 rfl rfl (by omega) rfl rfl (by omega) ?_)))))
 refine xp hnt 1 [.o 1] [] [(54,PV.ep 5 kk 0)] ?_
 obtain ⟨e1,he1⟩ := get_of_lt A (i := kk) (by omega)
 refine qo hnt rfl (s_ldM (b := e1) (f := eReply) tab_3 rfl rfl rfl rfl he1 rfl ?_)
 refine qm hnt rfl rfl (qo hnt rfl (s_callF rfl rfl rfl (w_burgageref3_Refuse e1.fn cc) rfl ?_))
 refine qo hnt rfl (s_iaR0 (q := kk) (f := eReply) (l := A) tab_58 rfl tab_62 rfl rfl (by omega) rfl rfl (by omega) ?_)
 refine qo hnt rfl (s_stM (y0 := e1) (z := (refuseR e1.fn cc)) (f := eReply) tab_62 rfl rfl rfl rfl rfl he1 (Nat.le_of_ble_eq_true rfl) rfl rfl (by simp) rfl ?_)
 refine r_set [(13,PV.ptr 0 0),(14,PV.ptr 2 0),(15,PV.ref 3 0 none),(16,pN kk),(17,pI cc),(18,PV.ref 5 0 none)] [(5,oB true 10 eReply (A.set kk (refuseR e1.fn cc))),(3,oB true 10 eReply A),(2,.obj (cRequest q1)),(1,.obj [pS 1 false encI u,pN b1]),(0,.obj [pI p1.unit,pK .u32 16777215,pI p1.queue,pS 4 false eWindow p1.windows,pS 2 false eSlot p1.slots])] 6 ⟨rfl,rfl,rfl,rfl,rfl,rfl,trivial⟩ rfl rfl (r_end (q_then (w_seq (w_R (qo hnt rfl (s_load_ptr tab_26 rfl rfl rfl (Nat.le_of_ble_eq_true rfl) ?_))))))
 refine qo hnt rfl (s_load_ptr tab_37 rfl rfl rfl (Nat.le_of_ble_eq_true rfl) ?_)
 refine qm hnt rfl rfl ?_
 obtain ⟨J1,hJ1⟩ : ∃ z : TReply,z = joinV (⟨p1.unit,16777215,p1.queue,p1.windows,p1.slots⟩ : TTenant).functions (⟨p1.unit,16777215,p1.queue,p1.windows,p1.slots⟩ : TTenant).windows q1 (A.set kk (refuseR e1.fn cc)) := ⟨_,rfl⟩
 refine qo hnt rfl (s_callK 6 (PV.f (eReply J1)) [(5,oB false 10 eReply (A.set kk (refuseR e1.fn cc))),(3,oB true 10 eReply A),(2,.obj (cRequest q1)),(1,.obj [pS 1 false encI u,pN b1]),(0,.obj [pI p1.unit,pK .u32 16777215,pI p1.queue,pS 4 false eWindow p1.windows,pS 2 false eSlot p1.slots])] [] (w_join_Reply (⟨p1.unit,16777215,p1.queue,p1.windows,p1.slots⟩ : TTenant) q1 (A.set kk (refuseR e1.fn cc)) false J1 hJ1 (by (simp only [List.length_take]; omega)) (by omega) (by omega) (by (simp only [List.length_set]; omega)) (by exact few_set hfw)) ?_)
 refine qo hnt rfl (s_alloc tab_62 ?_)
 refine qo hnt rfl (s_store_ptr tab_62 rfl rfl rfl rfl rfl (Nat.le_of_ble_eq_true rfl) ?_)
 refine r_set [(13,PV.ptr 0 0),(14,PV.ptr 2 0),(15,PV.ref 3 0 none),(16,pN kk),(17,pI cc),(19,PV.ptr 6 0)] [(6,.obj (cReply J1)),(5,oB false 10 eReply (A.set kk (refuseR e1.fn cc))),(3,oB true 10 eReply A),(2,.obj (cRequest q1)),(1,.obj [pS 1 false encI u,pN b1]),(0,.obj [pI p1.unit,pK .u32 16777215,pI p1.queue,pS 4 false eWindow p1.windows,pS 2 false eSlot p1.slots])] 7 ⟨rfl,rfl,rfl,rfl,rfl,rfl,trivial⟩ rfl rfl (r_end (q_then (w_seq (w_frzM (s := 15) (f := eReply) rfl rfl view_0 ?_))))
 have ea : J1 = refuseR q1.fn cc := by rw [hJ1,hA]; exact (fails_1 (F := 16777215) (l := p1.windows) (by omega) (by rw [refuse_code (by omega)]; omega)).trans (by rw [refuse_code (by omega)])
 refine wdr hnt (xq 4 [.o 4] [] (xk [(65,pS 10 false eReply A),(66,pN kk)] [] [] [] [(3,oB false 10 eReply A),(6,.obj (cReply J1)),(5,oB false 10 eReply (A.set kk (refuseR e1.fn cc))),(2,.obj (cRequest q1)),(1,.obj [pS 1 false encI u,pN b1]),(0,.obj [pI p1.unit,pK .u32 16777215,pI p1.queue,pS 4 false eWindow p1.windows,pS 2 false eSlot p1.slots])] (s_cutM_hi (b := kk) (f := eReply) (l := A) tab_58 rfl tab_62 ⟨rfl,by decide⟩ rfl (bound_some rfl (by omega)) (by omega) ⟨rfl,rfl,rfl⟩) ?_))
 obtain ⟨J2,hJ2⟩ : ∃ z : TReply,z = joinV (⟨p1.unit,16777215,p1.queue,p1.windows,p1.slots⟩ : TTenant).functions (⟨p1.unit,16777215,p1.queue,p1.windows,p1.slots⟩ : TTenant).windows q1 (A.take kk) := ⟨_,rfl⟩
 refine xk [(63,PV.f (.agg [encI p1.unit,FV.v (.int .u32 16777215),encI p1.queue,FV.sl 4 false (List.map eWindow p1.windows),FV.sl 2 false (List.map eSlot p1.slots)])),(64,PV.f (eRequest q1)),(67,pS 10 false eReply (A.take kk))] [] [] [] [(3,oB false 10 eReply A),(6,.obj (cReply J1)),(5,oB false 10 eReply (A.set kk (refuseR e1.fn cc))),(2,.obj (cRequest q1)),(1,.obj [pS 1 false encI u,pN b1]),(0,.obj [pI p1.unit,pK .u32 16777215,pI p1.queue,pS 4 false eWindow p1.windows,pS 2 false eSlot p1.slots])] (s_callF rfl rfl rfl (w_join_Reply (⟨p1.unit,16777215,p1.queue,p1.windows,p1.slots⟩ : TTenant) q1 (A.take kk) false J2 hJ2 (by (simp only [List.length_take]; omega)) (by omega) (by omega) (by (simp only [List.length_take]; omega)) (by exact few_take hfw)) rfl ⟨rfl,rfl,rfl⟩) (xd 2 [.o 2] [] 8 [(7,.obj (cReply J2)),(3,oB false 10 eReply A),(6,.obj (cReply J1)),(5,oB false 10 eReply (A.set kk (refuseR e1.fn cc))),(2,.obj (cRequest q1)),(1,.obj [pS 1 false encI u,pN b1]),(0,.obj [pI p1.unit,pK .u32 16777215,pI p1.queue,pS 4 false eWindow p1.windows,pS 2 false eSlot p1.slots])] (xe [(14,PV.ptr 2 0),(17,pI cc),(19,PV.ptr 6 0),(20,PV.ptr 7 0)] (r_end (q_then (w_seq ?_)))))
 have eb : J2 = refuseR q1.fn 4 := by rw [hJ2,hA]; exact fails_2 (F := 16777215) (l := p1.windows) (by omega)
 refine wdr hnt (xq 7 [.o 4,.c (PV.f (eReply (refuseR q1.fn cc))),.c (pB (decide (J1 = (refuseR q1.fn cc)))),.o 1] [T Try.prog 26 [pI q1.fn,pI cc] 0 [] (Ret (PV.f (eReply (refuseR q1.fn cc))) 0 []),T Try.prog 28 [PV.f (eReply J1),PV.f (eReply (refuseR q1.fn cc))] 0 [] (Ret (pB (decide (J1 = (refuseR q1.fn cc)))) 0 [])] ?_ (hc := ⟨(w_burgageref3_Refuse q1.fn cc),(w_burgageref3_Alike J1 (refuseR q1.fn cc) (by (rw [ea]; simp [refuseR]; done))),trivial⟩))
 refine xi 75 [(75,pB (decide (J1 = (refuseR q1.fn cc)))),(20,PV.ptr 7 0)] rfl (fun g1 => ?_) (fun g1 => ?_)
 ·have g1' := g1
  try simp only [sB] at g1'
  refine xkg [(75,pB (decide (J1 = (refuseR q1.fn cc)))),(20,PV.ptr 7 0)] [(7,.obj (cReply J2))] [] [(7,.obj (cReply J2))] [(7,.obj (cReply J2)),(3,oB false 10 eReply A),(6,.obj (cReply J1)),(5,oB false 10 eReply (A.set kk (refuseR e1.fn cc))),(2,.obj (cRequest q1)),(1,.obj [pS 1 false encI u,pN b1]),(0,.obj [pI p1.unit,pK .u32 16777215,pI p1.queue,pS 4 false eWindow p1.windows,pS 2 false eSlot p1.slots])] (s_load_ptr tab_62 rfl rfl rfl (Nat.le_of_ble_eq_true rfl) ⟨rfl,rfl,rfl⟩) ?_ (hs := ⟨rfl,trivial⟩)
  refine xey 75 [(75,pB (decide (J1 = (refuseR q1.fn cc)))),(14,PV.ptr 2 0)] rfl g1 (xkg [(75,pB (decide (J1 = (refuseR q1.fn cc)))),(14,PV.ptr 2 0)] [] [] [] [(7,.obj (cReply J2)),(3,oB false 10 eReply A),(6,.obj (cReply J1)),(5,oB false 10 eReply (A.set kk (refuseR e1.fn cc))),(2,.obj (cRequest q1)),(1,.obj [pS 1 false encI u,pN b1]),(0,.obj [pI p1.unit,pK .u32 16777215,pI p1.queue,pS 4 false eWindow p1.windows,pS 2 false eSlot p1.slots])] (s_fa_ptr tab_37 rfl rfl tab_3 (by decide) rfl ⟨rfl,rfl,rfl⟩) (xey 75 [(75,pB (decide (J1 = (refuseR q1.fn cc)))),(77,PV.ptr 2 0)] rfl g1 (xkg [(75,pB (decide (J1 = (refuseR q1.fn cc)))),(77,PV.ptr 2 0)] [(2,.obj (cRequest q1))] [] [(2,.obj (cRequest q1))] [(7,.obj (cReply J2)),(3,oB false 10 eReply A),(6,.obj (cReply J1)),(5,oB false 10 eReply (A.set kk (refuseR e1.fn cc))),(2,.obj (cRequest q1)),(1,.obj [pS 1 false encI u,pN b1]),(0,.obj [pI p1.unit,pK .u32 16777215,pI p1.queue,pS 4 false eWindow p1.windows,pS 2 false eSlot p1.slots])] (s_load_ptr1 tab_3 rfl rfl rfl rfl rfl ⟨rfl,rfl,rfl⟩) ?_ (hs := ⟨rfl,trivial⟩))))
  refine xey 75 [(75,pB (decide (J1 = (refuseR q1.fn cc)))),(78,pI q1.fn)] rfl g1 (xkg [(75,pB (decide (J1 = (refuseR q1.fn cc)))),(78,pI q1.fn)] [] [] [] [(7,.obj (cReply J2)),(3,oB false 10 eReply A),(6,.obj (cReply J1)),(5,oB false 10 eReply (A.set kk (refuseR e1.fn cc))),(2,.obj (cRequest q1)),(1,.obj [pS 1 false encI u,pN b1]),(0,.obj [pI p1.unit,pK .u32 16777215,pI p1.queue,pS 4 false eWindow p1.windows,pS 2 false eSlot p1.slots])] (s_callF rfl rfl rfl (w_burgageref3_Refuse q1.fn 4) rfl ⟨rfl,rfl,rfl⟩) (xey 75 [(75,pB (decide (J1 = (refuseR q1.fn cc)))),(76,PV.f (eReply J2)),(79,PV.f (eReply (refuseR q1.fn 4)))] rfl g1 (xkg [(75,pB (decide (J1 = (refuseR q1.fn cc)))),(76,PV.f (eReply J2)),(79,PV.f (eReply (refuseR q1.fn 4)))] [] [] [] [(7,.obj (cReply J2)),(3,oB false 10 eReply A),(6,.obj (cReply J1)),(5,oB false 10 eReply (A.set kk (refuseR e1.fn cc))),(2,.obj (cRequest q1)),(1,.obj [pS 1 false encI u,pN b1]),(0,.obj [pI p1.unit,pK .u32 16777215,pI p1.queue,pS 4 false eWindow p1.windows,pS 2 false eSlot p1.slots])] (s_callF rfl rfl rfl (w_burgageref3_Alike J2 (refuseR q1.fn 4) (by (rw [eb]; simp [refuseR]; done))) rfl ⟨rfl,rfl,rfl⟩) (xk [(75,pB (decide (J1 = (refuseR q1.fn cc)))),(80,pB (decide (J2 = (refuseR q1.fn 4))))] [] [] [] [(7,.obj (cReply J2)),(3,oB false 10 eReply A),(6,.obj (cReply J1)),(5,oB false 10 eReply (A.set kk (refuseR e1.fn cc))),(2,.obj (cRequest q1)),(1,.obj [pS 1 false encI u,pN b1]),(0,.obj [pI p1.unit,pK .u32 16777215,pI p1.queue,pS 4 false eWindow p1.windows,pS 2 false eSlot p1.slots])] (s_pick_t rfl g1 rfl ⟨rfl,rfl,rfl⟩) (xq 1 [.o 1] [] ?_)))))
  refine xi 82 [(82,pB (decide (J2 = (refuseR q1.fn 4))))] rfl (fun g2 => ?_) (fun g2 => ?_)
  ·have g2' := g2
   try simp only [sB] at g2'
   refine xkg [(82,pB (decide (J2 = (refuseR q1.fn 4))))] [] [] [] [(7,.obj (cReply J2)),(3,oB false 10 eReply A),(6,.obj (cReply J1)),(5,oB false 10 eReply (A.set kk (refuseR e1.fn cc))),(2,.obj (cRequest q1)),(1,.obj [pS 1 false encI u,pN b1]),(0,.obj [pI p1.unit,pK .u32 16777215,pI p1.queue,pS 4 false eWindow p1.windows,pS 2 false eSlot p1.slots])] (s_callF rfl rfl rfl (w_burgagelaw15_known) rfl ⟨rfl,rfl,rfl⟩) (xk [(82,pB (decide (J2 = (refuseR q1.fn 4)))),(83,pB true)] [] [] [] [(7,.obj (cReply J2)),(3,oB false 10 eReply A),(6,.obj (cReply J1)),(5,oB false 10 eReply (A.set kk (refuseR e1.fn cc))),(2,.obj (cRequest q1)),(1,.obj [pS 1 false encI u,pN b1]),(0,.obj [pI p1.unit,pK .u32 16777215,pI p1.queue,pS 4 false eWindow p1.windows,pS 2 false eSlot p1.slots])] (s_pick_t rfl g2 rfl ⟨rfl,rfl,rfl⟩) (xq 1 [.o 1] [] (xe [(12,pB true)] (r_end (q_then ?_)))))
   refine w_ret ?_
   exact fin_plain (ret_tmp rfl ret_nil) rfl rfl ⟨rfl,rfl,rfl⟩
  exact absurd g2 (by (rw [eb]; simp; done))
 exact absurd g1 (by (rw [ea]; simp; done))
end Go.Proofs.Ytlcmbkkimgdnmaa
