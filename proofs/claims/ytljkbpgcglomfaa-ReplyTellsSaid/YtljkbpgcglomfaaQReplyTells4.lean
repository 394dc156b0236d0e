/- What the law ReplyTells needs, and no more: merged out of texts of this session by a program of it (wip/tools/prune.py). -/
import Derived.Test.YtljkbpgcglomfaaQReplyTells3
set_option linter.unusedVariables false
set_option linter.unusedSimpArgs false
set_option maxRecDepth 10000
set_option maxHeartbeats 1000000
namespace Go.Proofs.Ytljkbpgcglomfaa
open Go Go.Proofs.Ytljkbpgcglomfaa.Pv
theorem w_octet_Open_d (b : List UInt8) (cl_b : Bool) (n : Int) (hb : b.length ≤ 140737488355328) (hn : n ≤ 9223372036854775807) (hd : b.length ≤ 17592186043904 ∨ n ≤ 140737488351232) :
    T Try.prog 102 [pS 1 cl_b enc8 b,pI n] 0 [] (Ret (PV.tup [pS 1 false encBo (bopV b n),pB (bopOk b n)]) 0 []) := by
 refine t_fun tabOk (n := 53) (rs := [.tmp 4,.tmp 5]) Try.func102 rfl rfl rfl rfl (Nat.le_of_ble_eq_true rfl) ?_
 intro c hnt hk
 refine w_seq (w_R (qa hnt rfl rfl (qa hnt rfl rfl (r_end (q_then ?_)))))
 refine w_seq (w_seq (w_R (qm hnt rfl rfl (qo hnt rfl (s_lss rfl rfl ?_)))))
 refine qm hnt rfl rfl (r_if tabOk hnt rfl rfl rfl (fun g1 => ?_) (fun g1 => ?_))
 ·have g1' := g1
  try simp only [sB] at g1'
  obtain ⟨kn,hkn⟩ : ∃ kn : Nat,n = (kn : Int) := ⟨n.toNat,by omega⟩
  refine r_eq (s := 1) (y := pN kn) rfl (congrArg pI (show n = ((kn : Nat) : Int) by exact hkn)) (qm hnt rfl rfl (ry hnt rfl rfl rfl g1 (qm hnt rfl rfl (ry hnt rfl rfl rfl g1 (qo hnt rfl (s_lenM (l := b) tab_51 rfl (hM_sl (f := enc8) rfl) ?_))))))
  refine ry hnt rfl rfl rfl g1 (qo hnt rfl (s_mulN (a := b.length) (b := 8) rfl rfl (by omega) (by omega) (by omega) ?_))
  refine ry hnt rfl rfl rfl g1 (qo hnt rfl (s_gtr rfl rfl ?_))
  refine qo hnt rfl (s_pick_f rfl g1 rfl ?_)
  refine qm hnt rfl rfl (r_if tabOk hnt rfl rfl rfl (fun g2 => ?_) (fun g2 => ?_))
  ·have g2' := g2
   try simp only [sB] at g2'
   refine qm hnt rfl rfl (ry hnt rfl rfl rfl g2 (qo hnt rfl (s_addN (a := kn) (b := 8) rfl rfl (by omega) (by omega) (by omega) ?_)))
   refine ry hnt rfl rfl rfl g2 (qo hnt rfl (s_subN (a := kn + 8) (b := 1) rfl rfl (by omega) (by omega) (by omega) ?_))
   refine ry hnt rfl rfl rfl g2 (qo hnt rfl (s_quoN (a := kn + 8 - 1) (b := 8) rfl rfl (by omega) (by omega) (by omega) ?_))
   refine ry hnt rfl rfl rfl g2 (qm hnt rfl rfl (ry hnt rfl rfl rfl g2 (qo hnt rfl (s_lenM (l := b) tab_51 rfl (hM_sl (f := enc8) rfl) ?_))))
   refine ry hnt rfl rfl rfl g2 (qo hnt rfl (s_neq rfl rfl ?_))
   refine qo hnt rfl (s_pick_f rfl g2 rfl ?_)
   refine r_end (q_then (w_if rfl (fun c1 => ?_) (fun c1 => ?_)))
   ·try simp only [sB] at c1
    have eo : bopOk b n = false := bopOk_no (by omega)
    refine w_seq (w_R (qa hnt rfl rfl (qa hnt rfl rfl (r_end (q_then ?_)))))
    refine w_le (s := 4) (y := pS 1 false encBo []) rfl (le_nilS 1 false) (w_le (s := 4) (y := pS 1 false encBo (bopV b n)) rfl (le_of_eq (congrArg (fun z => pS 1 false encBo z) (show ([] : List Bool) = (bopV b n) by (simp [bopV,eo]; done)))) (w_le (s := 5) (y := pB (bopOk b n)) rfl (le_of_eq (congrArg pB (show false = (bopOk b n) by exact eo.symm))) (w_ret (q_then_ret ?_))))
    exact fin_plain (ret_tmp rfl (ret_tmp rfl ret_nil)) rfl rfl ⟨rfl,rfl,rfl⟩
   try simp only [sB] at c1
   have hlen : (kn + 7) / 8 = b.length := by omega
   have hbd : kn ≤ 8 * b.length := by omega
   refine w_skip (q_then (w_seq (w_R (qm hnt rfl rfl (qo hnt rfl (s_makeM (f := encBo) (bt := 1) tab_one false kn (fun j hj => by cases hj; rfl) tab_42 rfl tab_4 ⟨rfl,by decide⟩ rfl rfl rfl (by omega) (by refine ⟨?_, ?_, ?_⟩ <;> omega) ?_))))))
   refine qa hnt rfl rfl (r_set [(0,pS 1 cl_b enc8 b),(6,PV.ref 0 0 none)] [(0,oB true 1 encBo (List.replicate kn false))] 1 ⟨rfl,rfl,trivial⟩ rfl rfl (r_end (q_then (w_seq (w_seq ?_)))))
   refine w_R (qm hnt rfl rfl (qo hnt rfl (s_lenM (l := List.replicate kn false) tab_42 rfl (hM_ref0 (f := encBo) rfl rfl) ?_)))
   refine qm hnt rfl rfl (r_end (q_then (w_block (loop2 (fun (os : List Bool) (i : Nat) => i ≤ kn ∧ os = openT b kn i) (fun (os : List Bool) (i : Nat) => [(0,pS 1 cl_b enc8 b),(6,PV.ref 0 0 none),(29,pN ((List.replicate kn false).length)),(30,pN i)]) 1 (fun (os : List Bool) (i : Nat) => [(0,oB true 1 encBo os)]) (fun (os : List Bool) (i : Nat) => kn - i) (List.replicate kn false) (0) ?_ ⟨[(0,0)],by rw [hk]; decide,⟨⟨_,rfl,rfl,rfl⟩,⟨_,rfl,rfl,rfl⟩,⟨_,rfl,rfl,rfl⟩,⟨_,rfl,rfl,rfl⟩,trivial⟩,⟨⟨_,_,rfl,rfl,rfl,rfl⟩,trivial⟩,by rw [hk]; decide⟩ ?_))))
   · exact ⟨Nat.zero_le _,by rw [openT_zero]⟩
   ·intro os i hI
    obtain ⟨hi,ho⟩ := hI
    have hol : os.length = kn := by rw [ho,openT_length]
    refine w_seq (w_R (qo hnt rfl (s_lss rfl rfl ?_)))
    refine r_end (q_then (w_seq (w_if rfl (fun c2 => ?_) (fun c2 => ?_))))
    ·try simp only [sB] at c2
     rw [List.length_replicate] at c2
     refine w_skip (q_then (w_seq (w_block (w_seq (w_R ?_)))))
     refine qm hnt rfl rfl (qa hnt rfl rfl (r_end (q_then (w_R (qm hnt rfl rfl ?_)))))
     refine qm hnt rfl rfl (qm hnt rfl rfl (qm hnt rfl rfl (qo hnt rfl (s_quoN (a := i) (b := 8) rfl rfl (by omega) (by omega) (by omega) ?_))))
     obtain ⟨e1,he1⟩ := get_of_lt b (i := i / 8) (by omega)
     refine qo hnt rfl (s_iaM (q := i / 8) (b := e1) (f := enc8) tab_51 rfl tab_5 rfl rfl (by omega) rfl he1 ?_)
     refine qo hnt rfl (s_load_ro1 tab_5 rfl rfl rfl rfl ?_)
     refine qm hnt rfl rfl (qo hnt rfl (s_remN (a := i) (b := 8) rfl rfl (by omega) (by omega) (by omega) ?_))
     refine qo hnt rfl (s_shr8 (a := e1) (i % 8) rfl rfl (by rfl) (by omega) ?_)
     refine qo hnt rfl (s_and8 (a := e1 >>> UInt8.ofNat (i % 8)) (b := 1) rfl rfl ?_)
     refine qo hnt rfl (s_eql8 (a := (e1 >>> UInt8.ofNat (i % 8)) &&& 1) (b := 1) rfl rfl ?_)
     refine qo hnt rfl (s_iaR0 (q := i) (f := encBo) (l := os) tab_42 rfl tab_4 rfl rfl (by omega) rfl rfl (by omega) ?_)
     obtain ⟨e2,he2⟩ := get_of_lt os (i := i) (by omega)
     refine qo hnt rfl (s_stM (y0 := e2) (z := decide ((e1 >>> UInt8.ofNat (i % 8)) &&& 1 = 1)) (f := encBo) tab_4 rfl rfl rfl rfl rfl he2 (Nat.le_of_ble_eq_true rfl) rfl rfl (by simp) rfl ?_)
     refine r_set [(0,pS 1 cl_b enc8 b),(6,PV.ref 0 0 none),(29,pN ((List.replicate kn false).length)),(30,pN i)] [(0,oB true 1 encBo (os.set i (decide ((e1 >>> UInt8.ofNat (i % 8)) &&& 1 = 1))))] 1 ⟨rfl,rfl,rfl,rfl,trivial⟩ rfl rfl (r_end (q_block (q_then (w_R (qo hnt rfl (s_addN (a := i) (b := 1) rfl rfl (by omega) (by omega) (by omega) ?_))))))
     refine qm hnt rfl rfl (r_end (q_then (⟨(os.set i (decide ((e1 >>> UInt8.ofNat (i % 8)) &&& 1 = 1))),(i + 1), ?_, ?_,⟨[(0,0)],by rw [hk]; decide,⟨⟨_,rfl,rfl,rfl⟩,⟨_,rfl,rfl,rfl⟩,⟨_,rfl,rfl,rfl⟩,⟨_,rfl,rfl,rfl⟩,trivial⟩,⟨⟨_,_,rfl,rfl,rfl,rfl⟩,trivial⟩,by rw [hk]; decide⟩⟩)))
     ·refine ⟨by omega, ?_⟩
      rw [← bitOf_of he1,ho,openT_set]
     · omega
    try simp only [sB] at c2
    rw [List.length_replicate] at c2
    have hoe : os = (List.range kn).map (bitOf b) := by rw [ho,show i = kn by omega,openT_end]
    refine w_exit (q_then_exit (q_then_exit (q_block_exit (q_then (w_seq ?_)))))
    refine w_seq (w_R (qm hnt rfl rfl (qo hnt rfl (s_callX (r2 := PV.ref 1 0 none) (nx1 := 2) (H2 := [(0,oB false 1 encBo os)]) (H3 := [(1,oB true 1 enc8 (packL os)),(0,oB false 1 encBo os)]) [] [] rfl rfl rfl (handed_of (by decide) trivial) rfl rfl rfl rfl rfl rfl (w_octet_Pack os false (by omega)) rfl (dist_of rfl) rfl rfl rfl rfl ?_))))
    refine qm hnt rfl rfl (qo hnt rfl (s_callX (r2 := pB (decide ((packL os) = b))) (nx1 := 2) (H2 := [(1,oB false 1 enc8 (packL os)),(0,oB false 1 encBo os)]) (H3 := [(1,oB false 1 enc8 (packL os)),(0,oB false 1 encBo os)]) [] [] rfl rfl rfl (handed_of (by decide) trivial) rfl rfl rfl rfl rfl rfl (w_slices_Equal_byte_byte (packL os) false b cl_b (by (simp; omega))) rfl (dist_of rfl) rfl rfl rfl rfl ?_))
    refine qo hnt rfl (s_not rfl ?_)
    refine r_set [(6,PV.ref 0 0 none),(51,pB (!(decide ((packL os) = b))))] [(1,oB false 1 enc8 (packL os)),(0,oB false 1 encBo os)] 2 ⟨rfl,rfl,trivial⟩ rfl rfl (r_end (q_then (w_if rfl (fun c3 => ?_) (fun c3 => ?_))))
    ·try simp only [sB] at c3
     have eo : bopOk b n = false := by rw [hkn,bopOk_nat ⟨hbd,hlen⟩]; exact decide_eq_false fun h => c3 (by rw [hoe]; exact (pack_bits hlen).2 h)
     refine w_seq (w_R (qa hnt rfl rfl (qa hnt rfl rfl (r_end (q_then ?_)))))
     refine w_le (s := 4) (y := pS 1 false encBo []) rfl (le_nilS 1 false) (w_le (s := 4) (y := pS 1 false encBo (bopV b n)) rfl (le_of_eq (congrArg (fun z => pS 1 false encBo z) (show ([] : List Bool) = (bopV b n) by (simp [bopV,eo]; done)))) (w_le (s := 5) (y := pB (bopOk b n)) rfl (le_of_eq (congrArg pB (show false = (bopOk b n) by exact eo.symm))) (w_ret (q_then_ret ?_))))
     exact fin_plain (ret_tmp rfl (ret_tmp rfl ret_nil)) rfl rfl ⟨rfl,rfl,rfl⟩
    try simp only [sB] at c3
    have eo : bopOk b n = true := by rw [hkn,bopOk_nat ⟨hbd,hlen⟩]; exact decide_eq_true ((pack_bits hlen).1 (by rw [← hoe]; simpa using c3))
    refine w_skip (q_then (w_seq (w_R (qm hnt rfl rfl (qa hnt rfl rfl ?_)))))
    refine qa hnt rfl rfl (r_end (q_then (w_frzM (s := 4) (f := encBo) rfl rfl view_0 (w_le (s := 4) (y := pS 1 false encBo (bopV b n)) rfl (le_of_eq (congrArg (fun z => pS 1 false encBo z) (show os = (bopV b n) by (rw [hkn,bopV_nat (by rw [← hkn]; exact eo),hoe])))) (w_le (s := 5) (y := pB (bopOk b n)) rfl (le_of_eq (congrArg pB (show true = (bopOk b n) by exact eo.symm))) ?_)))))
    refine w_ret ?_
    exact fin_plain (ret_tmp rfl (ret_tmp rfl ret_nil)) rfl rfl ⟨rfl,rfl,rfl⟩
  have g2' := g2
  try simp only [sB] at g2'
  have eo : bopOk b n = false := bopOk_no (by omega)
  refine rn hnt rfl rfl rfl g2 (rn hnt rfl rfl rfl g2 (rn hnt rfl rfl rfl g2 (rn hnt rfl rfl rfl g2 (rn hnt rfl rfl rfl g2 (rn hnt rfl rfl rfl g2 ?_)))))
  refine qo hnt rfl (s_pick_t rfl g2 rfl ?_)
  refine r_end (q_then (w_if rfl (fun _ => ?_) (fun e => absurd e (by decide))))
  refine w_seq (w_R (qa hnt rfl rfl (qa hnt rfl rfl (r_end (q_then ?_)))))
  refine w_le (s := 4) (y := pS 1 false encBo []) rfl (le_nilS 1 false) (w_le (s := 4) (y := pS 1 false encBo (bopV b n)) rfl (le_of_eq (congrArg (fun z => pS 1 false encBo z) (show ([] : List Bool) = (bopV b n) by (simp [bopV,eo]; done)))) (w_le (s := 5) (y := pB (bopOk b n)) rfl (le_of_eq (congrArg pB (show false = (bopOk b n) by exact eo.symm))) (w_ret (q_then_ret ?_))))
  exact fin_plain (ret_tmp rfl (ret_tmp rfl ret_nil)) rfl rfl ⟨rfl,rfl,rfl⟩
 have g1' := g1
 try simp only [sB] at g1'
 have eo : bopOk b n = false := bopOk_no (by omega)
 refine rn hnt rfl rfl rfl g1 (rn hnt rfl rfl rfl g1 (rn hnt rfl rfl rfl g1 (rn hnt rfl rfl rfl g1 (qo hnt rfl (s_pick_t rfl g1 rfl ?_)))))
 refine qm hnt rfl rfl (rn hnt rfl rfl rfl rfl (rn hnt rfl rfl rfl rfl (rn hnt rfl rfl rfl rfl (rn hnt rfl rfl rfl rfl (rn hnt rfl rfl rfl rfl ?_)))))
 refine rn hnt rfl rfl rfl rfl (rn hnt rfl rfl rfl rfl (qo hnt rfl (s_pick_t rfl rfl rfl ?_)))
 refine r_end (q_then (w_if rfl (fun _ => ?_) (fun e => absurd e (by decide))))
 refine w_seq (w_R (qa hnt rfl rfl (qa hnt rfl rfl (r_end (q_then ?_)))))
 refine w_le (s := 4) (y := pS 1 false encBo []) rfl (le_nilS 1 false) (w_le (s := 4) (y := pS 1 false encBo (bopV b n)) rfl (le_of_eq (congrArg (fun z => pS 1 false encBo z) (show ([] : List Bool) = (bopV b n) by (simp [bopV,eo]; done)))) (w_le (s := 5) (y := pB (bopOk b n)) rfl (le_of_eq (congrArg pB (show false = (bopOk b n) by exact eo.symm))) (w_ret (q_then_ret ?_))))
 exact fin_plain (ret_tmp rfl (ret_tmp rfl ret_nil)) rfl rfl ⟨rfl,rfl,rfl⟩
theorem w_burgageref1_Open_d (b : List UInt8) (cl_b : Bool) (n : Int) (hb : b.length ≤ 140737488355328) (hn : n ≤ 9223372036854775807) (hd : b.length ≤ 17592186043904 ∨ n ≤ 140737488351232) :
    T Try.prog 98 [pS 1 cl_b enc8 b,pI n] 0 [] (Ret (PV.tup [pS 1 false encBo (bopV b n),pB (bopOk b n)]) 0 []) := by
 refine t_fun tabOk (n := 53) (rs := [.tmp 4,.tmp 5]) Try.func98 rfl rfl rfl rfl (Nat.le_of_ble_eq_true rfl) ?_
 intro c hnt hk
 refine w_seq (w_R (qa hnt rfl rfl (qa hnt rfl rfl (r_end (q_then ?_)))))
 refine w_seq (w_seq (w_R (qm hnt rfl rfl (qo hnt rfl (s_lss rfl rfl ?_)))))
 refine qm hnt rfl rfl (r_if tabOk hnt rfl rfl rfl (fun g1 => ?_) (fun g1 => ?_))
 ·have g1' := g1
  try simp only [sB] at g1'
  obtain ⟨kn,hkn⟩ : ∃ kn : Nat,n = (kn : Int) := ⟨n.toNat,by omega⟩
  refine r_eq (s := 1) (y := pN kn) rfl (congrArg pI (show n = ((kn : Nat) : Int) by exact hkn)) (qm hnt rfl rfl (ry hnt rfl rfl rfl g1 (qm hnt rfl rfl (ry hnt rfl rfl rfl g1 (qo hnt rfl (s_lenM (l := b) tab_51 rfl (hM_sl (f := enc8) rfl) ?_))))))
  refine ry hnt rfl rfl rfl g1 (qo hnt rfl (s_mulN (a := 8) (b := b.length) rfl rfl (by omega) (by omega) (by omega) ?_))
  refine ry hnt rfl rfl rfl g1 (qo hnt rfl (s_gtr rfl rfl ?_))
  refine qo hnt rfl (s_pick_f rfl g1 rfl ?_)
  refine qm hnt rfl rfl (r_if tabOk hnt rfl rfl rfl (fun g2 => ?_) (fun g2 => ?_))
  ·have g2' := g2
   try simp only [sB] at g2'
   refine qm hnt rfl rfl (ry hnt rfl rfl rfl g2 (qo hnt rfl (s_lenM (l := b) tab_51 rfl (hM_sl (f := enc8) rfl) ?_)))
   refine ry hnt rfl rfl rfl g2 (qm hnt rfl rfl (ry hnt rfl rfl rfl g2 (qo hnt rfl (s_addN (a := kn) (b := 7) rfl rfl (by omega) (by omega) (by omega) ?_))))
   refine ry hnt rfl rfl rfl g2 (qo hnt rfl (s_quoN (a := kn + 7) (b := 8) rfl rfl (by omega) (by omega) (by omega) ?_))
   refine ry hnt rfl rfl rfl g2 (qo hnt rfl (s_neq rfl rfl ?_))
   refine qo hnt rfl (s_pick_f rfl g2 rfl ?_)
   refine r_end (q_then (w_if rfl (fun c1 => ?_) (fun c1 => ?_)))
   ·try simp only [sB] at c1
    have eo : bopOk b n = false := bopOk_no (by omega)
    refine w_seq (w_R (qa hnt rfl rfl (qa hnt rfl rfl (r_end (q_then ?_)))))
    refine w_le (s := 4) (y := pS 1 false encBo []) rfl (le_nilS 1 false) (w_le (s := 4) (y := pS 1 false encBo (bopV b n)) rfl (le_of_eq (congrArg (fun z => pS 1 false encBo z) (show ([] : List Bool) = (bopV b n) by (simp [bopV,eo]; done)))) (w_le (s := 5) (y := pB (bopOk b n)) rfl (le_of_eq (congrArg pB (show false = (bopOk b n) by exact eo.symm))) (w_ret (q_then_ret ?_))))
    exact fin_plain (ret_tmp rfl (ret_tmp rfl ret_nil)) rfl rfl ⟨rfl,rfl,rfl⟩
   try simp only [sB] at c1
   have hlen : (kn + 7) / 8 = b.length := by omega
   have hbd : kn ≤ 8 * b.length := by omega
   refine w_skip (q_then (w_seq (w_R (qa hnt rfl rfl (r_end ?_)))))
   refine q_then (w_seq (w_seq (w_R (qa hnt rfl rfl (r_end ?_)))))
   refine q_then (w_block (w_adopt (s := 6) (sz := 1) rfl (loop2 (fun (os : List Bool) (i : Nat) => i ≤ 8 * b.length ∧ os = (List.range (min i kn)).map (bitOf b) ∧ ∀ j,j < i → kn ≤ j → bitOf b j = false) (fun (os : List Bool) (i : Nat) => [(0,pS 1 cl_b enc8 b),(1,pN kn),(6,PV.ref 0 0 none),(7,pN i)]) 1 (fun (os : List Bool) (i : Nat) => [(0,oB true 1 encBo os)]) (fun (os : List Bool) (i : Nat) => 8 * b.length - i) (([] : List Bool)) (0) ?_ ⟨[(0,0)],by rw [hk]; decide,⟨⟨_,rfl,rfl,rfl⟩,⟨_,rfl,rfl,rfl⟩,⟨_,rfl,rfl,rfl⟩,⟨_,rfl,rfl,rfl⟩,trivial⟩,⟨⟨_,_,rfl,rfl,rfl,rfl⟩,trivial⟩,by rw [hk]; decide⟩ ?_)))
   · exact ⟨Nat.zero_le _,by simp,fun j hj => by omega⟩
   ·intro os i hI
    obtain ⟨hi,ho,hz⟩ := hI
    have hol : os.length ≤ i := by rw [ho]; simp; omega
    refine w_seq (w_seq (w_R (qm hnt rfl rfl (qm hnt rfl rfl (qo hnt rfl (s_lenM (l := b) tab_51 rfl (hM_sl (f := enc8) rfl) ?_))))))
    refine qo hnt rfl (s_mulN (a := 8) (b := b.length) rfl rfl (by omega) (by omega) (by omega) ?_)
    refine qo hnt rfl (s_lss rfl rfl ?_)
    refine r_end (q_then (w_if rfl (fun c2 => ?_) (fun c2 => ?_)))
    ·try simp only [sB] at c2
     refine w_skip (q_then (w_seq (w_block (w_seq (w_R ?_)))))
     refine qm hnt rfl rfl (qm hnt rfl rfl (qo hnt rfl (s_quoN (a := i) (b := 8) rfl rfl (by omega) (by omega) (by omega) ?_)))
     obtain ⟨e1,he1⟩ := get_of_lt b (i := i / 8) (by omega)
     refine qo hnt rfl (s_iaM (q := i / 8) (b := e1) (f := enc8) tab_51 rfl tab_5 rfl rfl (by omega) rfl he1 ?_)
     refine qo hnt rfl (s_load_ro1 tab_5 rfl rfl rfl rfl ?_)
     refine qm hnt rfl rfl (qo hnt rfl (s_remN (a := i) (b := 8) rfl rfl (by omega) (by omega) (by omega) ?_))
     refine qo hnt rfl (s_cvK tab_3 tab_62 rfl rfl rfl rfl (by exact ⟨by omega,by show _ < (18446744073709551616 : Int); omega⟩) ?_)
     refine qo hnt rfl (s_shr8 (a := e1) (i % 8) rfl rfl (by rfl) (by omega) ?_)
     refine qo hnt rfl (s_and8 (a := e1 >>> UInt8.ofNat (i % 8)) (b := 1) rfl rfl ?_)
     refine qo hnt rfl (s_eql8 (a := (e1 >>> UInt8.ofNat (i % 8)) &&& 1) (b := 1) rfl rfl ?_)
     refine qa hnt rfl rfl (r_end (q_then (w_seq (w_R (qm hnt rfl rfl ?_)))))
     refine qm hnt rfl rfl (qo hnt rfl (s_lss rfl rfl ?_))
     refine r_end (q_then (w_if rfl (fun c3 => ?_) (fun c3 => ?_)))
     ·try simp only [sB] at c3
      refine w_R (qm hnt rfl rfl (qm hnt rfl rfl (qo hnt rfl (s_mkM (f := encBo) [decide ((e1 >>> UInt8.ofNat (i % 8)) &&& 1 = 1)] tab_42 rfl tab_4 ⟨rfl,by decide⟩ (by decide) rfl rfl rfl rfl ?_))))
      refine qo hnt rfl (s_appR0 (f := encBo) (l := os) (xs := [decide ((e1 >>> UInt8.ofNat (i % 8)) &&& 1 = 1)]) tab_42 rfl tab_4 ⟨rfl,by decide,by decide⟩ (srcM tab_42 rfl (hM_ref0 (f := encBo) rfl rfl)) rfl rfl (by (simp; omega)) ?_)
      refine qa hnt rfl rfl (r_set [(0,pS 1 cl_b enc8 b),(1,pN kn),(6,PV.ref 2 0 none),(7,pN i)] [(2,oB true 1 encBo (os ++ [decide ((e1 >>> UInt8.ofNat (i % 8)) &&& 1 = 1)])),(1,oB true 1 encBo [decide ((e1 >>> UInt8.ofNat (i % 8)) &&& 1 = 1)])] 3 ⟨rfl,rfl,rfl,rfl,trivial⟩ rfl rfl (r_end (q_block (q_then (w_R ?_)))))
      refine qm hnt rfl rfl (qo hnt rfl (s_addN (a := i) (b := 1) rfl rfl (by omega) (by omega) (by omega) ?_))
      refine qa hnt rfl rfl (r_end (q_then (⟨(os ++ [decide ((e1 >>> UInt8.ofNat (i % 8)) &&& 1 = 1)]),(i + 1), ?_, ?_,⟨[(0,2)],by rw [hk]; decide,⟨⟨_,rfl,rfl,rfl⟩,⟨_,rfl,rfl,rfl⟩,⟨_,rfl,rfl,rfl⟩,⟨_,rfl,rfl,rfl⟩,trivial⟩,⟨⟨_,_,rfl,rfl,rfl,rfl⟩,trivial⟩,by rw [hk]; decide⟩⟩)))
      ·(refine ⟨by omega, ?_,fun j hj hn => hz j (by omega) hn⟩; rw [show min (i + 1) kn = i + 1 by omega,bits_snoc,bitOf_of he1,ho,show min i kn = i by omega])
      · omega
     try simp only [sB] at c3
     refine w_seq (w_R (qm hnt rfl rfl (r_end (q_then (w_if rfl (fun c4 => ?_) (fun c4 => ?_))))))
     ·have c4_ := c4
      try simp only [sB] at c4
      have hbi : bitOf b i = true := by rw [bitOf_of he1]; simpa using c4_
      have eo : bopOk b n = false := by rw [hkn,bopOk_nat ⟨hbd,hlen⟩]; exact decide_eq_false fun h => by rw [h i (by omega) (by omega)] at hbi; cases hbi
      refine w_seq (w_R (qa hnt rfl rfl (qa hnt rfl rfl (r_end (q_then ?_)))))
      refine w_le (s := 4) (y := pS 1 false encBo []) rfl (le_nilS 1 false) (w_le (s := 4) (y := pS 1 false encBo (bopV b n)) rfl (le_of_eq (congrArg (fun z => pS 1 false encBo z) (show ([] : List Bool) = (bopV b n) by (simp [bopV,eo]; done)))) (w_le (s := 5) (y := pB (bopOk b n)) rfl (le_of_eq (congrArg pB (show false = (bopOk b n) by exact eo.symm))) (w_ret (q_block_ret (q_then_ret ?_)))))
      refine q_then_ret (q_block_ret (q_then_ret ?_))
      exact fin_plain (ret_tmp rfl (ret_tmp rfl ret_nil)) rfl rfl ⟨rfl,rfl,rfl⟩
     have c4_ := c4
     try simp only [sB] at c4
     have hbi : bitOf b i = false := by rw [bitOf_of he1]; simpa using c4_
     refine w_skip (q_block (q_then (w_R (qm hnt rfl rfl (qo hnt rfl (s_addN (a := i) (b := 1) rfl rfl (by omega) (by omega) (by omega) ?_))))))
     refine qa hnt rfl rfl (r_end (q_then (⟨(os),(i + 1), ?_, ?_,⟨[(0,0)],by rw [hk]; decide,⟨⟨_,rfl,rfl,rfl⟩,⟨_,rfl,rfl,rfl⟩,⟨_,rfl,rfl,rfl⟩,⟨_,rfl,rfl,rfl⟩,trivial⟩,⟨⟨_,_,rfl,rfl,rfl,rfl⟩,trivial⟩,by rw [hk]; decide⟩⟩)))
     ·(refine ⟨by omega,by rw [ho,show min (i + 1) kn = min i kn by omega],fun j hj hn => ?_⟩; by_cases hji : j < i; exact hz j hji hn; obtain rfl : j = i := (by omega); exact hbi)
     · omega
    try simp only [sB] at c2
    have hoe : os = (List.range kn).map (bitOf b) := by rw [ho,show min i kn = kn by omega]
    have eo : bopOk b n = true := by rw [hkn,bopOk_nat ⟨hbd,hlen⟩]; exact decide_eq_true fun j hj hn => hz j (by omega) hn
    refine w_exit (q_then_exit (q_then_exit (q_block_exit (q_then (w_seq ?_)))))
    refine w_R (qm hnt rfl rfl (qa hnt rfl rfl (qa hnt rfl rfl (r_end (q_then ?_)))))
    refine w_frzM (s := 4) (f := encBo) rfl rfl view_0 (w_le (s := 4) (y := pS 1 false encBo (bopV b n)) rfl (le_of_eq (congrArg (fun z => pS 1 false encBo z) (show os = (bopV b n) by (rw [hkn,bopV_nat (by rw [← hkn]; exact eo),hoe])))) (w_le (s := 5) (y := pB (bopOk b n)) rfl (le_of_eq (congrArg pB (show true = (bopOk b n) by exact eo.symm))) (w_ret ?_)))
    exact fin_plain (ret_tmp rfl (ret_tmp rfl ret_nil)) rfl rfl ⟨rfl,rfl,rfl⟩
  have g2' := g2
  try simp only [sB] at g2'
  have eo : bopOk b n = false := bopOk_no (by omega)
  refine rn hnt rfl rfl rfl g2 (rn hnt rfl rfl rfl g2 (rn hnt rfl rfl rfl g2 (rn hnt rfl rfl rfl g2 (rn hnt rfl rfl rfl g2 (qo hnt rfl (s_pick_t rfl g2 rfl ?_))))))
  refine r_end (q_then (w_if rfl (fun _ => ?_) (fun e => absurd e (by decide))))
  refine w_seq (w_R (qa hnt rfl rfl (qa hnt rfl rfl (r_end (q_then ?_)))))
  refine w_le (s := 4) (y := pS 1 false encBo []) rfl (le_nilS 1 false) (w_le (s := 4) (y := pS 1 false encBo (bopV b n)) rfl (le_of_eq (congrArg (fun z => pS 1 false encBo z) (show ([] : List Bool) = (bopV b n) by (simp [bopV,eo]; done)))) (w_le (s := 5) (y := pB (bopOk b n)) rfl (le_of_eq (congrArg pB (show false = (bopOk b n) by exact eo.symm))) (w_ret (q_then_ret ?_))))
  exact fin_plain (ret_tmp rfl (ret_tmp rfl ret_nil)) rfl rfl ⟨rfl,rfl,rfl⟩
 have g1' := g1
 try simp only [sB] at g1'
 have eo : bopOk b n = false := bopOk_no (by omega)
 refine rn hnt rfl rfl rfl g1 (rn hnt rfl rfl rfl g1 (rn hnt rfl rfl rfl g1 (rn hnt rfl rfl rfl g1 (qo hnt rfl (s_pick_t rfl g1 rfl ?_)))))
 refine qm hnt rfl rfl (rn hnt rfl rfl rfl rfl (rn hnt rfl rfl rfl rfl (rn hnt rfl rfl rfl rfl (rn hnt rfl rfl rfl rfl (rn hnt rfl rfl rfl rfl ?_)))))
 refine rn hnt rfl rfl rfl rfl (qo hnt rfl (s_pick_t rfl rfl rfl ?_))
 refine r_end (q_then (w_if rfl (fun _ => ?_) (fun e => absurd e (by decide))))
 refine w_seq (w_R (qa hnt rfl rfl (qa hnt rfl rfl (r_end (q_then ?_)))))
 refine w_le (s := 4) (y := pS 1 false encBo []) rfl (le_nilS 1 false) (w_le (s := 4) (y := pS 1 false encBo (bopV b n)) rfl (le_of_eq (congrArg (fun z => pS 1 false encBo z) (show ([] : List Bool) = (bopV b n) by (simp [bopV,eo]; done)))) (w_le (s := 5) (y := pB (bopOk b n)) rfl (le_of_eq (congrArg pB (show false = (bopOk b n) by exact eo.symm))) (w_ret (q_then_ret ?_))))
 exact fin_plain (ret_tmp rfl (ret_tmp rfl ret_nil)) rfl rfl ⟨rfl,rfl,rfl⟩
theorem w_reply_guess (b : List UInt8) (cl_b : Bool) (q : TRequest) (G : TReply) (hG : G = takeP b q) (hb : b.length ≤ 140737488351232) (h1 : 1 ≤ b.length) (hq : q.count ≤ 9223372036854775807 ∧ (b.length ≤ 17592186043904 ∨ q.count ≤ 140737488351232)) :
    T Try.prog 66 [pS 1 cl_b enc8 b,PV.f (eRequest q)] 0 [] (Ret (PV.f (eReply G)) 0 []) := by
 refine t_fun tabOk (n := 113) (rs := [.cell 4 53]) Try.func66 rfl rfl rfl rfl (Nat.le_of_ble_eq_true rfl) ?_
 intro c hnt hk
 refine w_seq (w_R (qo hnt rfl (s_box rfl rfl ?_)))
 refine qo hnt rfl (s_alloc tab_53 ?_)
 refine r_set [(0,pS 1 cl_b enc8 b),(3,PV.ptr 0 0),(4,PV.ptr 1 0)] [(1,.obj [pI 0,pI 0,pI 0,pI 0,pI 0,pNil,pNil,p16 0,p16 0,pNil]),(0,.obj (cRequest q))] 2 ⟨rfl,rfl,rfl,trivial⟩ rfl rfl (r_end (q_then (w_seq (w_R (qm hnt rfl rfl ?_)))))
 obtain ⟨e1,he1⟩ := get_of_lt b (i := 0) (by omega)
 refine qo hnt rfl (s_iaM (q := 0) (b := e1) (f := enc8) tab_51 rfl tab_5 rfl rfl (by omega) rfl he1 ?_)
 refine qo hnt rfl (s_load_ro1 tab_5 rfl rfl rfl rfl ?_)
 refine qo hnt rfl (s_cvN (a := UInt8.toNat e1) tab_5 tab_3 rfl rfl rfl (by omega) (by have := lt8 e1; omega) ?_)
 refine qo hnt rfl (s_fa_ptr tab_53 rfl rfl tab_3 (by decide) rfl ?_)
 refine qo hnt rfl (s_store_ptr tab_3 rfl rfl rfl rfl rfl (Nat.le_of_ble_eq_true rfl) ?_)
 refine r_set [(0,pS 1 cl_b enc8 b),(3,PV.ptr 0 0),(4,PV.ptr 1 0)] [(1,.obj [pN (UInt8.toNat e1),pI 0,pI 0,pI 0,pI 0,pNil,pNil,p16 0,p16 0,pNil]),(0,.obj (cRequest q))] 2 ⟨rfl,rfl,rfl,trivial⟩ rfl rfl (r_end (q_then (w_seq (w_seq ?_))))
 have hb0 : b.getD 0 0 = e1 := by rw [List.getD_eq_getElem?_getD,he1]; rfl
 have hel := e1.toNat_lt
 refine w_R (qo hnt rfl (s_fa_ptr tab_53 rfl rfl tab_3 (by decide) rfl ?_))
 refine qo hnt rfl (s_load_ptr1 tab_3 rfl rfl rfl rfl rfl ?_)
 refine qo hnt rfl (s_geq rfl rfl ?_)
 refine r_end (q_then (w_if rfl (fun c1 => ?_) (fun c1 => ?_)))
 ·try simp only [sB] at c1
  refine w_seq (w_R (qo hnt rfl (s_fa_ptr tab_53 rfl rfl tab_3 (by decide) rfl ?_)))
  refine qo hnt rfl (s_load_ptr1 tab_3 rfl rfl rfl rfl rfl ?_)
  refine qo hnt rfl (s_subi (r := ((UInt8.toNat e1 : Nat) : Int) - 128) rfl rfl rfl (by omega) ?_)
  refine qo hnt rfl (s_fa_ptr tab_53 rfl rfl tab_3 (by decide) rfl ?_)
  refine qo hnt rfl (s_store_ptr tab_3 rfl rfl rfl rfl rfl (Nat.le_of_ble_eq_true rfl) ?_)
  refine r_set [(0,pS 1 cl_b enc8 b),(4,PV.ptr 1 0)] [(1,.obj [pI (((UInt8.toNat e1 : Nat) : Int) - 128),pI 0,pI 0,pI 0,pI 0,pNil,pNil,p16 0,p16 0,pNil]),(0,.obj (cRequest q))] 2 ⟨rfl,rfl,trivial⟩ rfl rfl (r_end (q_then (w_seq (w_seq (w_R ?_)))))
  refine qm hnt rfl rfl (qo hnt rfl (s_lenM (l := b) tab_51 rfl (hM_sl (f := enc8) rfl) ?_))
  refine qo hnt rfl (s_gtr rfl rfl ?_)
  refine r_end (q_then (w_if rfl (fun c2 => ?_) (fun c2 => ?_)))
  ·try simp only [sB] at c2
   refine w_R (qm hnt rfl rfl ?_)
   obtain ⟨e2,he2⟩ := get_of_lt b (i := 1) (by omega)
   refine qo hnt rfl (s_iaM (q := 1) (b := e2) (f := enc8) tab_51 rfl tab_5 rfl rfl (by omega) rfl he2 ?_)
   refine qo hnt rfl (s_load_ro1 tab_5 rfl rfl rfl rfl ?_)
   refine qo hnt rfl (s_cvN (a := UInt8.toNat e2) tab_5 tab_3 rfl rfl rfl (by omega) (by have := lt8 e2; omega) ?_)
   refine qo hnt rfl (s_fa_ptr tab_53 rfl rfl tab_3 (by decide) rfl ?_)
   refine qo hnt rfl (s_store_ptr tab_3 rfl rfl rfl rfl rfl (Nat.le_of_ble_eq_true rfl) ?_)
   refine r_set [(4,PV.ptr 1 0)] [(1,.obj [pI (((UInt8.toNat e1 : Nat) : Int) - 128),pN (UInt8.toNat e2),pI 0,pI 0,pI 0,pNil,pNil,p16 0,p16 0,pNil]),(0,.obj (cRequest q))] 2 ⟨rfl,trivial⟩ rfl rfl (r_end (q_then (w_seq (w_R (qo hnt rfl (s_load_ptr tab_53 rfl rfl rfl (Nat.le_of_ble_eq_true rfl) ?_))))))
   refine qo hnt rfl (s_store_ptr tab_53 rfl rfl rfl rfl rfl (Nat.le_of_ble_eq_true rfl) ?_)
   refine r_set [(4,PV.ptr 1 0)] [(1,.obj [pI (((UInt8.toNat e1 : Nat) : Int) - 128),pN (UInt8.toNat e2),pI 0,pI 0,pI 0,pNil,pNil,p16 0,p16 0,pNil]),(0,.obj (cRequest q))] 2 ⟨rfl,trivial⟩ rfl rfl (r_end (q_then ?_))
   have hz1 : (((UInt8.toNat e1 : Nat) : Int) - 128) = G.fn ∧ ((UInt8.toNat e2 : Nat) : Int) = G.code ∧ 0 = G.at_ ∧ 0 = G.count ∧ 0 = G.sub ∧ ([] : List Bool) = G.bits ∧ ([] : List UInt16) = G.vals ∧ 0 = G.and_ ∧ 0 = G.or_ ∧ ([] : List UInt8) = G.data := by and_intros <;> ((rw [hG,takeP_no hb0 (by omega),codeG_1 (by omega) he2]; done))
   refine w_leO (n := 1) (ds := cReply G) rfl ⟨le_of_eq (congrArg pI hz1.1),le_of_eq (congrArg pI hz1.2.1),le_of_eq (congrArg pI hz1.2.2.1),le_of_eq (congrArg pI hz1.2.2.2.1),le_of_eq (congrArg pI hz1.2.2.2.2.1),le_tr (le_nilS 1 false) (le_of_eq (congrArg (fun z => pS 1 false encBo z) hz1.2.2.2.2.2.1)),le_tr (le_nilS 1 false) (le_of_eq (congrArg (fun z => pS 1 false enc16 z) hz1.2.2.2.2.2.2.1)),le_of_eq (congrArg p16 hz1.2.2.2.2.2.2.2.1),le_of_eq (congrArg p16 hz1.2.2.2.2.2.2.2.2.1),le_tr (le_nilS 1 false) (le_of_eq (congrArg (fun z => pS 1 false enc8 z) hz1.2.2.2.2.2.2.2.2.2)),trivial⟩ (w_ret (q_then_ret ?_))
   exact fin_plain (ret_cell tab_53 (by decide) rfl rfl (Nat.le_of_ble_eq_true rfl) rfl ret_nil) rfl rfl ⟨rfl,rfl,rfl⟩
  try simp only [sB] at c2
  refine w_skip (q_then (w_seq (w_R (qo hnt rfl (s_load_ptr tab_53 rfl rfl rfl (Nat.le_of_ble_eq_true rfl) ?_)))))
  refine qo hnt rfl (s_store_ptr tab_53 rfl rfl rfl rfl rfl (Nat.le_of_ble_eq_true rfl) ?_)
  refine r_set [(4,PV.ptr 1 0)] [(1,.obj [pI (((UInt8.toNat e1 : Nat) : Int) - 128),pI 0,pI 0,pI 0,pI 0,pNil,pNil,p16 0,p16 0,pNil]),(0,.obj (cRequest q))] 2 ⟨rfl,trivial⟩ rfl rfl (r_end (q_then ?_))
  have hz2 : (((UInt8.toNat e1 : Nat) : Int) - 128) = G.fn ∧ 0 = G.code ∧ 0 = G.at_ ∧ 0 = G.count ∧ 0 = G.sub ∧ ([] : List Bool) = G.bits ∧ ([] : List UInt16) = G.vals ∧ 0 = G.and_ ∧ 0 = G.or_ ∧ ([] : List UInt8) = G.data := by and_intros <;> ((rw [hG,takeP_no hb0 (by omega),codeG_0 (by omega)]; done))
  refine w_leO (n := 1) (ds := cReply G) rfl ⟨le_of_eq (congrArg pI hz2.1),le_of_eq (congrArg pI hz2.2.1),le_of_eq (congrArg pI hz2.2.2.1),le_of_eq (congrArg pI hz2.2.2.2.1),le_of_eq (congrArg pI hz2.2.2.2.2.1),le_tr (le_nilS 1 false) (le_of_eq (congrArg (fun z => pS 1 false encBo z) hz2.2.2.2.2.2.1)),le_tr (le_nilS 1 false) (le_of_eq (congrArg (fun z => pS 1 false enc16 z) hz2.2.2.2.2.2.2.1)),le_of_eq (congrArg p16 hz2.2.2.2.2.2.2.2.1),le_of_eq (congrArg p16 hz2.2.2.2.2.2.2.2.2.1),le_tr (le_nilS 1 false) (le_of_eq (congrArg (fun z => pS 1 false enc8 z) hz2.2.2.2.2.2.2.2.2.2)),trivial⟩ (w_ret (q_then_ret ?_))
  exact fin_plain (ret_cell tab_53 (by decide) rfl rfl (Nat.le_of_ble_eq_true rfl) rfl ret_nil) rfl rfl ⟨rfl,rfl,rfl⟩
 try simp only [sB] at c1
 refine w_skip (q_then (w_seq (w_R (qm hnt rfl rfl (qm hnt rfl rfl ?_)))))
 refine qo hnt rfl (s_lenM (l := b) tab_51 rfl (hM_sl (f := enc8) rfl) ?_)
 refine qo hnt rfl (s_minN (a := b.length) (b := 2) rfl (by omega) (by omega) ?_)
 refine qo hnt rfl (s_cutM_lo (a := min b.length 2) (f := enc8) (l := b) tab_51 rfl tab_5 ⟨rfl,by decide⟩ rfl (bound_some rfl (by omega)) (by omega) ?_)
 refine qa hnt rfl rfl (r_end (q_then (w_seq (w_seq (w_R ?_)))))
 refine qo hnt rfl (s_fa_ptr tab_53 rfl rfl tab_3 (by decide) rfl ?_)
 refine qo hnt rfl (s_load_ptr1 tab_3 rfl rfl rfl rfl rfl ?_)
 refine r_end (q_then (w_block (join1 (fun (bb1 : Bool) => bb1 = ((decide (((UInt8.toNat e1 : Nat) : Int) = 1)) || (decide (((UInt8.toNat e1 : Nat) : Int) = 2)))) (fun (bb1 : Bool) => [(0,pS 1 cl_b enc8 b),(3,PV.ptr 0 0),(4,PV.ptr 1 0),(5,pS 1 cl_b enc8 (b.drop (min b.length 2))),(33,pN (UInt8.toNat e1)),(34,pB bb1)]) 2 (fun (bb1 : Bool) => [(0,.obj (cRequest q)),(1,.obj [pN (UInt8.toNat e1),pI 0,pI 0,pI 0,pI 0,pNil,pNil,p16 0,p16 0,pNil])]) ?_ ?_)))
 ·refine w_seq (w_R (qo hnt rfl (s_eql rfl rfl ?_)))
  refine qa hnt rfl rfl (r_end (q_then (w_if rfl (fun c3 => ?_) (fun c3 => ?_))))
  ·have c3_ := c3
   try simp only [sB] at c3
   refine w_skip (q_then (⟨(decide (((UInt8.toNat e1 : Nat) : Int) = 1)), ?_,⟨[(0,0),(1,1)],by rw [hk]; decide,⟨⟨_,rfl,rfl,rfl⟩,⟨_,rfl,rfl,rfl⟩,⟨_,rfl,rfl,rfl⟩,⟨_,rfl,rfl,rfl⟩,⟨_,rfl,rfl,rfl⟩,⟨_,rfl,rfl,rfl⟩,trivial⟩,⟨⟨_,_,rfl,rfl,rfl,rfl⟩,⟨_,_,rfl,rfl,rfl,rfl⟩,trivial⟩,by rw [hk]; decide⟩⟩))
   simp only [c3_,Bool.true_or,Bool.false_or]
  have c3_ := c3
  try simp only [sB] at c3
  refine w_R (qo hnt rfl (s_eql rfl rfl ?_))
  refine qa hnt rfl rfl (r_end (q_then (⟨(decide (((UInt8.toNat e1 : Nat) : Int) = 2)), ?_,⟨[(0,0),(1,1)],by rw [hk]; decide,⟨⟨_,rfl,rfl,rfl⟩,⟨_,rfl,rfl,rfl⟩,⟨_,rfl,rfl,rfl⟩,⟨_,rfl,rfl,rfl⟩,⟨_,rfl,rfl,rfl⟩,⟨_,rfl,rfl,rfl⟩,trivial⟩,⟨⟨_,_,rfl,rfl,rfl,rfl⟩,⟨_,_,rfl,rfl,rfl,rfl⟩,trivial⟩,by rw [hk]; decide⟩⟩)))
  simp only [c3_,Bool.true_or,Bool.false_or]
 intro bb1 hbb1
 subst hbb1
 refine w_if rfl (fun c4 => ?_) (fun c4 => ?_)
 ·try simp only [sB,Bool.or_eq_true,Bool.or_eq_false_iff] at c4
  refine w_R (qm hnt rfl rfl (qo hnt rfl (s_fa_ptr tab_46 rfl rfl tab_3 (by decide) rfl ?_)))
  refine qo hnt rfl (s_load_ptr1 tab_3 rfl rfl rfl rfl rfl ?_)
  refine qo hnt rfl (s_callF rfl rfl rfl (w_octet_Open_d (b.drop (min b.length 2)) cl_b q.count (by rw [List.length_drop]; omega) (by omega) (by rw [List.length_drop]; omega)) rfl ?_)
  refine qm hnt rfl rfl (qo hnt rfl (s_extract rfl rfl ?_))
  refine qo hnt rfl (s_extract rfl rfl ?_)
  refine qo hnt rfl (s_fa_ptr tab_53 rfl rfl tab_42 (by decide) rfl ?_)
  refine qo hnt rfl (s_store_ptr tab_42 rfl rfl rfl rfl rfl (Nat.le_of_ble_eq_true rfl) ?_)
  refine r_set [(4,PV.ptr 1 0)] [(1,.obj [pN (UInt8.toNat e1),pI 0,pI 0,pI 0,pI 0,pS 1 false encBo (bopV (b.drop (min b.length 2)) q.count),pNil,p16 0,p16 0,pNil]),(0,.obj (cRequest q))] 2 ⟨rfl,trivial⟩ rfl rfl (r_end (q_block (q_then (w_seq (w_R ?_)))))
  refine qo hnt rfl (s_load_ptr tab_53 rfl rfl rfl (Nat.le_of_ble_eq_true rfl) ?_)
  refine qo hnt rfl (s_store_ptr tab_53 rfl rfl rfl rfl rfl (Nat.le_of_ble_eq_true rfl) ?_)
  refine r_set [(4,PV.ptr 1 0)] [(1,.obj [pN (UInt8.toNat e1),pI 0,pI 0,pI 0,pI 0,pS 1 false encBo (bopV (b.drop (min b.length 2)) q.count),pNil,p16 0,p16 0,pNil]),(0,.obj (cRequest q))] 2 ⟨rfl,trivial⟩ rfl rfl (r_end (q_then ?_))
  have hz3 : ((UInt8.toNat e1 : Nat) : Int) = G.fn ∧ 0 = G.code ∧ 0 = G.at_ ∧ 0 = G.count ∧ 0 = G.sub ∧ (bopV (b.drop (min b.length 2)) q.count) = G.bits ∧ ([] : List UInt16) = G.vals ∧ 0 = G.and_ ∧ 0 = G.or_ ∧ ([] : List UInt8) = G.data := by and_intros <;> ((rw [hG,takeP_1 hb0 (by omega) (by omega)]; done))
  refine w_leO (n := 1) (ds := cReply G) rfl ⟨le_of_eq (congrArg pI hz3.1),le_of_eq (congrArg pI hz3.2.1),le_of_eq (congrArg pI hz3.2.2.1),le_of_eq (congrArg pI hz3.2.2.2.1),le_of_eq (congrArg pI hz3.2.2.2.2.1),le_of_eq (congrArg (fun z => pS 1 false encBo z) hz3.2.2.2.2.2.1),le_tr (le_nilS 1 false) (le_of_eq (congrArg (fun z => pS 1 false enc16 z) hz3.2.2.2.2.2.2.1)),le_of_eq (congrArg p16 hz3.2.2.2.2.2.2.2.1),le_of_eq (congrArg p16 hz3.2.2.2.2.2.2.2.2.1),le_tr (le_nilS 1 false) (le_of_eq (congrArg (fun z => pS 1 false enc8 z) hz3.2.2.2.2.2.2.2.2.2)),trivial⟩ (w_ret ?_)
  exact fin_plain (ret_cell tab_53 (by decide) rfl rfl (Nat.le_of_ble_eq_true rfl) rfl ret_nil) rfl rfl ⟨rfl,rfl,rfl⟩
 try simp only [sB,Bool.or_eq_true,Bool.or_eq_false_iff] at c4
 refine join1 (fun (bb2 : Bool) => bb2 = ((decide (((UInt8.toNat e1 : Nat) : Int) = 3)) || ((decide (((UInt8.toNat e1 : Nat) : Int) = 4)) || (decide (((UInt8.toNat e1 : Nat) : Int) = 23))))) (fun (bb2 : Bool) => [(0,pS 1 cl_b enc8 b),(4,PV.ptr 0 0),(5,pS 1 cl_b enc8 (b.drop (min b.length 2))),(33,pN (UInt8.toNat e1)),(45,pB bb2)]) 1 (fun (bb2 : Bool) => [(0,.obj [pN (UInt8.toNat e1),pI 0,pI 0,pI 0,pI 0,pNil,pNil,p16 0,p16 0,pNil])]) ?_ ?_
 ·refine w_seq (w_R (qo hnt rfl (s_eql rfl rfl ?_)))
  refine qa hnt rfl rfl (r_end (q_then (w_if rfl (fun c5 => ?_) (fun c5 => ?_))))
  ·have c5_ := c5
   try simp only [sB] at c5
   refine w_skip (q_then (⟨(decide (((UInt8.toNat e1 : Nat) : Int) = 3)), ?_,⟨[(0,1)],by rw [hk]; decide,⟨⟨_,rfl,rfl,rfl⟩,⟨_,rfl,rfl,rfl⟩,⟨_,rfl,rfl,rfl⟩,⟨_,rfl,rfl,rfl⟩,⟨_,rfl,rfl,rfl⟩,trivial⟩,⟨⟨_,_,rfl,rfl,rfl,rfl⟩,trivial⟩,by rw [hk]; decide⟩⟩))
   simp only [c5_,Bool.true_or,Bool.false_or]
  have c5_ := c5
  try simp only [sB] at c5
  refine w_seq (w_R (qo hnt rfl (s_eql rfl rfl ?_)))
  refine qa hnt rfl rfl (r_end (q_then (w_if rfl (fun c6 => ?_) (fun c6 => ?_))))
  ·have c6_ := c6
   try simp only [sB] at c6
   refine w_skip (q_then (⟨(decide (((UInt8.toNat e1 : Nat) : Int) = 4)), ?_,⟨[(0,1)],by rw [hk]; decide,⟨⟨_,rfl,rfl,rfl⟩,⟨_,rfl,rfl,rfl⟩,⟨_,rfl,rfl,rfl⟩,⟨_,rfl,rfl,rfl⟩,⟨_,rfl,rfl,rfl⟩,trivial⟩,⟨⟨_,_,rfl,rfl,rfl,rfl⟩,trivial⟩,by rw [hk]; decide⟩⟩))
   simp only [c5_,c6_,Bool.true_or,Bool.false_or]
  have c6_ := c6
  try simp only [sB] at c6
  refine w_R (qo hnt rfl (s_eql rfl rfl ?_))
  refine qa hnt rfl rfl (r_end (q_then (⟨(decide (((UInt8.toNat e1 : Nat) : Int) = 23)), ?_,⟨[(0,1)],by rw [hk]; decide,⟨⟨_,rfl,rfl,rfl⟩,⟨_,rfl,rfl,rfl⟩,⟨_,rfl,rfl,rfl⟩,⟨_,rfl,rfl,rfl⟩,⟨_,rfl,rfl,rfl⟩,trivial⟩,⟨⟨_,_,rfl,rfl,rfl,rfl⟩,trivial⟩,by rw [hk]; decide⟩⟩)))
  simp only [c5_,c6_,Bool.true_or,Bool.false_or]
 intro bb2 hbb2
 subst hbb2
 refine w_if rfl (fun c7 => ?_) (fun c7 => ?_)
 ·try simp only [sB,Bool.or_eq_true,Bool.or_eq_false_iff] at c7
  refine w_R (qm hnt rfl rfl (qo hnt rfl (s_callF rfl rfl rfl (w_octet_Words (b.drop (min b.length 2)) cl_b (by (simp; omega))) rfl ?_)))
  refine qm hnt rfl rfl (qo hnt rfl (s_extract rfl rfl ?_))
  refine qo hnt rfl (s_extract rfl rfl ?_)
  refine qo hnt rfl (s_fa_ptr tab_53 rfl rfl tab_43 (by decide) rfl ?_)
  refine qo hnt rfl (s_store_ptr tab_43 rfl rfl rfl rfl rfl (Nat.le_of_ble_eq_true rfl) ?_)
  refine r_set [(4,PV.ptr 0 0)] [(0,.obj [pN (UInt8.toNat e1),pI 0,pI 0,pI 0,pI 0,pNil,pS 1 false enc16 (wordsV (b.drop (min b.length 2))),p16 0,p16 0,pNil])] 1 ⟨rfl,trivial⟩ rfl rfl (r_end (q_block (q_then (w_seq (w_R ?_)))))
  refine qo hnt rfl (s_load_ptr tab_53 rfl rfl rfl (Nat.le_of_ble_eq_true rfl) ?_)
  refine qo hnt rfl (s_store_ptr tab_53 rfl rfl rfl rfl rfl (Nat.le_of_ble_eq_true rfl) ?_)
  refine r_set [(4,PV.ptr 0 0)] [(0,.obj [pN (UInt8.toNat e1),pI 0,pI 0,pI 0,pI 0,pNil,pS 1 false enc16 (wordsV (b.drop (min b.length 2))),p16 0,p16 0,pNil])] 1 ⟨rfl,trivial⟩ rfl rfl (r_end (q_then ?_))
  have hz4 : ((UInt8.toNat e1 : Nat) : Int) = G.fn ∧ 0 = G.code ∧ 0 = G.at_ ∧ 0 = G.count ∧ 0 = G.sub ∧ ([] : List Bool) = G.bits ∧ (wordsV (b.drop (min b.length 2))) = G.vals ∧ 0 = G.and_ ∧ 0 = G.or_ ∧ ([] : List UInt8) = G.data := by and_intros <;> ((rw [hG,takeP_3 hb0 (by omega) (by omega)]; done))
  refine w_leO (n := 0) (ds := cReply G) rfl ⟨le_of_eq (congrArg pI hz4.1),le_of_eq (congrArg pI hz4.2.1),le_of_eq (congrArg pI hz4.2.2.1),le_of_eq (congrArg pI hz4.2.2.2.1),le_of_eq (congrArg pI hz4.2.2.2.2.1),le_tr (le_nilS 1 false) (le_of_eq (congrArg (fun z => pS 1 false encBo z) hz4.2.2.2.2.2.1)),le_of_eq (congrArg (fun z => pS 1 false enc16 z) hz4.2.2.2.2.2.2.1),le_of_eq (congrArg p16 hz4.2.2.2.2.2.2.2.1),le_of_eq (congrArg p16 hz4.2.2.2.2.2.2.2.2.1),le_tr (le_nilS 1 false) (le_of_eq (congrArg (fun z => pS 1 false enc8 z) hz4.2.2.2.2.2.2.2.2.2)),trivial⟩ (w_ret ?_)
  exact fin_plain (ret_cell tab_53 (by decide) rfl rfl (Nat.le_of_ble_eq_true rfl) rfl ret_nil) rfl rfl ⟨rfl,rfl,rfl⟩
 try simp only [sB,Bool.or_eq_true,Bool.or_eq_false_iff] at c7
 refine w_seq (w_R (qo hnt rfl (s_eql rfl rfl ?_)))
 refine qa hnt rfl rfl (r_end (q_then (w_if rfl (fun c8 => ?_) (fun c8 => ?_))))
 ·try simp only [sB] at c8
  refine w_R (qm hnt rfl rfl (qo hnt rfl (s_callF rfl rfl rfl (w_reply_num b cl_b 0 (by omega) (by omega)) rfl ?_)))
  refine qm hnt rfl rfl (qo hnt rfl (s_callF rfl rfl rfl (w_reply_num b cl_b 1 (by omega) (by omega)) rfl ?_))
  refine qo hnt rfl (s_eql rfl rfl ?_)
  refine qo hnt rfl (s_mkM (f := encBo) [decide (getV b (1 + 2 * (1 : Int)) = 65280)] tab_42 rfl tab_4 ⟨rfl,by decide⟩ (by decide) rfl rfl rfl rfl ?_)
  refine qo hnt rfl (s_fa_ptr tab_53 rfl rfl tab_3 (by decide) rfl ?_)
  refine qo hnt rfl (s_store_ptr tab_3 rfl rfl rfl rfl rfl (Nat.le_of_ble_eq_true rfl) ?_)
  refine qo hnt rfl (s_fa_ptr tab_53 rfl rfl tab_42 (by decide) rfl ?_)
  refine qo hnt rfl (s_store_ptr tab_42 rfl rfl rfl rfl rfl (Nat.le_of_ble_eq_true rfl) ?_)
  refine r_set [(4,PV.ptr 0 0)] [(0,.obj [pN (UInt8.toNat e1),pI 0,pI (getV b (1 + 2 * (0 : Int))),pI 0,pI 0,PV.ref 1 0 none,pNil,p16 0,p16 0,pNil]),(1,oB true 1 encBo [decide (getV b (1 + 2 * (1 : Int)) = 65280)])] 2 ⟨rfl,trivial⟩ rfl rfl (r_end (q_block (q_then (w_seq (w_R ?_)))))
  refine qo hnt rfl (s_load_ptr tab_53 rfl rfl rfl (Nat.le_of_ble_eq_true rfl) ?_)
  refine qo hnt rfl (s_store_ptr tab_53 rfl rfl rfl rfl rfl (Nat.le_of_ble_eq_true rfl) ?_)
  refine r_set [(4,PV.ptr 0 0)] [(0,.obj [pN (UInt8.toNat e1),pI 0,pI (getV b (1 + 2 * (0 : Int))),pI 0,pI 0,PV.ref 1 0 none,pNil,p16 0,p16 0,pNil]),(1,oB true 1 encBo [decide (getV b (1 + 2 * (1 : Int)) = 65280)])] 2 ⟨rfl,trivial⟩ rfl rfl (r_end (q_then (w_frzC (n := 0) (j := 5) rfl rfl rfl rfl ?_)))
  have hz5 : ([decide (getV b (1 + 2 * (1 : Int)) = 65280)] : List Bool) = G.bits := by ((rw [hG,takeP_5 hb0 (by omega) (by omega)]; rfl))
  refine w_leO (n := 0) (ds := [pN (UInt8.toNat e1),pI 0,pI (getV b (1 + 2 * (0 : Int))),pI 0,pI 0,pS 1 false encBo G.bits,pNil,p16 0,p16 0,pNil]) rfl ⟨le_refl _,le_refl _,le_refl _,le_refl _,le_refl _,le_of_eq (congrArg (fun z => pS 1 false encBo z) hz5),le_refl _,le_refl _,le_refl _,le_refl _,trivial⟩ ?_
  have hz6 : ((UInt8.toNat e1 : Nat) : Int) = G.fn ∧ 0 = G.code ∧ (getV b (1 + 2 * (0 : Int))) = G.at_ ∧ 0 = G.count ∧ 0 = G.sub ∧ ([] : List UInt16) = G.vals ∧ 0 = G.and_ ∧ 0 = G.or_ ∧ ([] : List UInt8) = G.data := by and_intros <;> (first|(rw [hG,takeP_5 hb0 (by omega) (by omega)]; done)|(rw [hG,takeP_5 hb0 (by omega) (by omega)]; rfl))
  refine w_leO (n := 0) (ds := cReply G) rfl ⟨le_of_eq (congrArg pI hz6.1),le_of_eq (congrArg pI hz6.2.1),le_of_eq (congrArg pI hz6.2.2.1),le_of_eq (congrArg pI hz6.2.2.2.1),le_of_eq (congrArg pI hz6.2.2.2.2.1),le_refl _,le_tr (le_nilS 1 false) (le_of_eq (congrArg (fun z => pS 1 false enc16 z) hz6.2.2.2.2.2.1)),le_of_eq (congrArg p16 hz6.2.2.2.2.2.2.1),le_of_eq (congrArg p16 hz6.2.2.2.2.2.2.2.1),le_tr (le_nilS 1 false) (le_of_eq (congrArg (fun z => pS 1 false enc8 z) hz6.2.2.2.2.2.2.2.2)),trivial⟩ (w_ret ?_)
  exact fin_plain (ret_cell tab_53 (by decide) rfl rfl (Nat.le_of_ble_eq_true rfl) rfl ret_nil) rfl rfl ⟨rfl,rfl,rfl⟩
 try simp only [sB] at c8
 refine w_seq (w_R (qo hnt rfl (s_eql rfl rfl ?_)))
 refine qa hnt rfl rfl (r_end (q_then (w_if rfl (fun c9 => ?_) (fun c9 => ?_))))
 ·try simp only [sB] at c9
  refine w_R (qm hnt rfl rfl (qo hnt rfl (s_callF rfl rfl rfl (w_reply_num b cl_b 0 (by omega) (by omega)) rfl ?_)))
  refine qm hnt rfl rfl (qo hnt rfl (s_callF rfl rfl rfl (w_reply_num b cl_b 1 (by omega) (by omega)) rfl ?_))
  refine qo hnt rfl (s_cv16 tab_3 tab_44 rfl rfl rfl ?_)
  refine qo hnt rfl (s_mkM (f := enc16) [u16I (getV b (1 + 2 * (1 : Int)))] tab_43 rfl tab_44 ⟨rfl,by decide⟩ (by decide) rfl rfl rfl rfl ?_)
  refine qo hnt rfl (s_fa_ptr tab_53 rfl rfl tab_3 (by decide) rfl ?_)
  refine qo hnt rfl (s_store_ptr tab_3 rfl rfl rfl rfl rfl (Nat.le_of_ble_eq_true rfl) ?_)
  refine qo hnt rfl (s_fa_ptr tab_53 rfl rfl tab_43 (by decide) rfl ?_)
  refine qo hnt rfl (s_store_ptr tab_43 rfl rfl rfl rfl rfl (Nat.le_of_ble_eq_true rfl) ?_)
  refine r_set [(4,PV.ptr 0 0)] [(0,.obj [pN (UInt8.toNat e1),pI 0,pI (getV b (1 + 2 * (0 : Int))),pI 0,pI 0,pNil,PV.ref 1 0 none,p16 0,p16 0,pNil]),(1,oB true 1 enc16 [u16I (getV b (1 + 2 * (1 : Int)))])] 2 ⟨rfl,trivial⟩ rfl rfl (r_end (q_block (q_then (w_seq (w_R ?_)))))
  refine qo hnt rfl (s_load_ptr tab_53 rfl rfl rfl (Nat.le_of_ble_eq_true rfl) ?_)
  refine qo hnt rfl (s_store_ptr tab_53 rfl rfl rfl rfl rfl (Nat.le_of_ble_eq_true rfl) ?_)
  refine r_set [(4,PV.ptr 0 0)] [(0,.obj [pN (UInt8.toNat e1),pI 0,pI (getV b (1 + 2 * (0 : Int))),pI 0,pI 0,pNil,PV.ref 1 0 none,p16 0,p16 0,pNil]),(1,oB true 1 enc16 [u16I (getV b (1 + 2 * (1 : Int)))])] 2 ⟨rfl,trivial⟩ rfl rfl (r_end (q_then (w_frzC (n := 0) (j := 6) rfl rfl rfl rfl ?_)))
  have hz7 : ([u16I (getV b (1 + 2 * (1 : Int)))] : List UInt16) = G.vals := by ((rw [hG,takeP_6 hb0 (by omega) (by omega)]; rfl))
  refine w_leO (n := 0) (ds := [pN (UInt8.toNat e1),pI 0,pI (getV b (1 + 2 * (0 : Int))),pI 0,pI 0,pNil,pS 1 false enc16 G.vals,p16 0,p16 0,pNil]) rfl ⟨le_refl _,le_refl _,le_refl _,le_refl _,le_refl _,le_refl _,le_of_eq (congrArg (fun z => pS 1 false enc16 z) hz7),le_refl _,le_refl _,le_refl _,trivial⟩ ?_
  have hz8 : ((UInt8.toNat e1 : Nat) : Int) = G.fn ∧ 0 = G.code ∧ (getV b (1 + 2 * (0 : Int))) = G.at_ ∧ 0 = G.count ∧ 0 = G.sub ∧ ([] : List Bool) = G.bits ∧ 0 = G.and_ ∧ 0 = G.or_ ∧ ([] : List UInt8) = G.data := by and_intros <;> (first|(rw [hG,takeP_6 hb0 (by omega) (by omega)]; done)|(rw [hG,takeP_6 hb0 (by omega) (by omega)]; rfl))
  refine w_leO (n := 0) (ds := cReply G) rfl ⟨le_of_eq (congrArg pI hz8.1),le_of_eq (congrArg pI hz8.2.1),le_of_eq (congrArg pI hz8.2.2.1),le_of_eq (congrArg pI hz8.2.2.2.1),le_of_eq (congrArg pI hz8.2.2.2.2.1),le_tr (le_nilS 1 false) (le_of_eq (congrArg (fun z => pS 1 false encBo z) hz8.2.2.2.2.2.1)),le_refl _,le_of_eq (congrArg p16 hz8.2.2.2.2.2.2.1),le_of_eq (congrArg p16 hz8.2.2.2.2.2.2.2.1),le_tr (le_nilS 1 false) (le_of_eq (congrArg (fun z => pS 1 false enc8 z) hz8.2.2.2.2.2.2.2.2)),trivial⟩ (w_ret ?_)
  exact fin_plain (ret_cell tab_53 (by decide) rfl rfl (Nat.le_of_ble_eq_true rfl) rfl ret_nil) rfl rfl ⟨rfl,rfl,rfl⟩
 try simp only [sB] at c9
 refine w_seq (w_R (qo hnt rfl (s_eql rfl rfl ?_)))
 refine qa hnt rfl rfl (r_end (q_then (w_if rfl (fun c10 => ?_) (fun c10 => ?_))))
 ·try simp only [sB] at c10
  refine w_R (qm hnt rfl rfl (qo hnt rfl (s_callF rfl rfl rfl (w_reply_num b cl_b 0 (by omega) (by omega)) rfl ?_)))
  refine qm hnt rfl rfl (qo hnt rfl (s_callF rfl rfl rfl (w_reply_num b cl_b 1 (by omega) (by omega)) rfl ?_))
  refine qo hnt rfl (s_cv16 tab_3 tab_44 rfl rfl rfl ?_)
  refine qo hnt rfl (s_mkM (f := enc16) [u16I (getV b (1 + 2 * (1 : Int)))] tab_43 rfl tab_44 ⟨rfl,by decide⟩ (by decide) rfl rfl rfl rfl ?_)
  refine qo hnt rfl (s_fa_ptr tab_53 rfl rfl tab_3 (by decide) rfl ?_)
  refine qo hnt rfl (s_store_ptr tab_3 rfl rfl rfl rfl rfl (Nat.le_of_ble_eq_true rfl) ?_)
  refine qo hnt rfl (s_fa_ptr tab_53 rfl rfl tab_43 (by decide) rfl ?_)
  refine qo hnt rfl (s_store_ptr tab_43 rfl rfl rfl rfl rfl (Nat.le_of_ble_eq_true rfl) ?_)
  refine r_set [(4,PV.ptr 0 0)] [(0,.obj [pN (UInt8.toNat e1),pI 0,pI 0,pI 0,pI (getV b (1 + 2 * (0 : Int))),pNil,PV.ref 1 0 none,p16 0,p16 0,pNil]),(1,oB true 1 enc16 [u16I (getV b (1 + 2 * (1 : Int)))])] 2 ⟨rfl,trivial⟩ rfl rfl (r_end (q_block (q_then (w_seq (w_R ?_)))))
  refine qo hnt rfl (s_load_ptr tab_53 rfl rfl rfl (Nat.le_of_ble_eq_true rfl) ?_)
  refine qo hnt rfl (s_store_ptr tab_53 rfl rfl rfl rfl rfl (Nat.le_of_ble_eq_true rfl) ?_)
  refine r_set [(4,PV.ptr 0 0)] [(0,.obj [pN (UInt8.toNat e1),pI 0,pI 0,pI 0,pI (getV b (1 + 2 * (0 : Int))),pNil,PV.ref 1 0 none,p16 0,p16 0,pNil]),(1,oB true 1 enc16 [u16I (getV b (1 + 2 * (1 : Int)))])] 2 ⟨rfl,trivial⟩ rfl rfl (r_end (q_then (w_frzC (n := 0) (j := 6) rfl rfl rfl rfl ?_)))
  have hz9 : ([u16I (getV b (1 + 2 * (1 : Int)))] : List UInt16) = G.vals := by ((rw [hG,takeP_8 hb0 (by omega) (by omega)]; rfl))
  refine w_leO (n := 0) (ds := [pN (UInt8.toNat e1),pI 0,pI 0,pI 0,pI (getV b (1 + 2 * (0 : Int))),pNil,pS 1 false enc16 G.vals,p16 0,p16 0,pNil]) rfl ⟨le_refl _,le_refl _,le_refl _,le_refl _,le_refl _,le_refl _,le_of_eq (congrArg (fun z => pS 1 false enc16 z) hz9),le_refl _,le_refl _,le_refl _,trivial⟩ ?_
  have hz10 : ((UInt8.toNat e1 : Nat) : Int) = G.fn ∧ 0 = G.code ∧ 0 = G.at_ ∧ 0 = G.count ∧ (getV b (1 + 2 * (0 : Int))) = G.sub ∧ ([] : List Bool) = G.bits ∧ 0 = G.and_ ∧ 0 = G.or_ ∧ ([] : List UInt8) = G.data := by and_intros <;> (first|(rw [hG,takeP_8 hb0 (by omega) (by omega)]; done)|(rw [hG,takeP_8 hb0 (by omega) (by omega)]; rfl))
  refine w_leO (n := 0) (ds := cReply G) rfl ⟨le_of_eq (congrArg pI hz10.1),le_of_eq (congrArg pI hz10.2.1),le_of_eq (congrArg pI hz10.2.2.1),le_of_eq (congrArg pI hz10.2.2.2.1),le_of_eq (congrArg pI hz10.2.2.2.2.1),le_tr (le_nilS 1 false) (le_of_eq (congrArg (fun z => pS 1 false encBo z) hz10.2.2.2.2.2.1)),le_refl _,le_of_eq (congrArg p16 hz10.2.2.2.2.2.2.1),le_of_eq (congrArg p16 hz10.2.2.2.2.2.2.2.1),le_tr (le_nilS 1 false) (le_of_eq (congrArg (fun z => pS 1 false enc8 z) hz10.2.2.2.2.2.2.2.2)),trivial⟩ (w_ret ?_)
  exact fin_plain (ret_cell tab_53 (by decide) rfl rfl (Nat.le_of_ble_eq_true rfl) rfl ret_nil) rfl rfl ⟨rfl,rfl,rfl⟩
 try simp only [sB] at c10
 refine join1 (fun (bb3 : Bool) => bb3 = ((decide (((UInt8.toNat e1 : Nat) : Int) = 15)) || (decide (((UInt8.toNat e1 : Nat) : Int) = 16)))) (fun (bb3 : Bool) => [(0,pS 1 cl_b enc8 b),(4,PV.ptr 0 0),(5,pS 1 cl_b enc8 (b.drop (min b.length 2))),(33,pN (UInt8.toNat e1)),(85,pB bb3)]) 1 (fun (bb3 : Bool) => [(0,.obj [pN (UInt8.toNat e1),pI 0,pI 0,pI 0,pI 0,pNil,pNil,p16 0,p16 0,pNil])]) ?_ ?_
 ·refine w_seq (w_R (qo hnt rfl (s_eql rfl rfl ?_)))
  refine qa hnt rfl rfl (r_end (q_then (w_if rfl (fun c11 => ?_) (fun c11 => ?_))))
  ·have c11_ := c11
   try simp only [sB] at c11
   refine w_skip (q_then (⟨(decide (((UInt8.toNat e1 : Nat) : Int) = 15)), ?_,⟨[(0,0)],by rw [hk]; decide,⟨⟨_,rfl,rfl,rfl⟩,⟨_,rfl,rfl,rfl⟩,⟨_,rfl,rfl,rfl⟩,⟨_,rfl,rfl,rfl⟩,⟨_,rfl,rfl,rfl⟩,trivial⟩,⟨⟨_,_,rfl,rfl,rfl,rfl⟩,trivial⟩,by rw [hk]; decide⟩⟩))
   simp only [c11_,Bool.true_or,Bool.false_or]
  have c11_ := c11
  try simp only [sB] at c11
  refine w_R (qo hnt rfl (s_eql rfl rfl ?_))
  refine qa hnt rfl rfl (r_end (q_then (⟨(decide (((UInt8.toNat e1 : Nat) : Int) = 16)), ?_,⟨[(0,0)],by rw [hk]; decide,⟨⟨_,rfl,rfl,rfl⟩,⟨_,rfl,rfl,rfl⟩,⟨_,rfl,rfl,rfl⟩,⟨_,rfl,rfl,rfl⟩,⟨_,rfl,rfl,rfl⟩,trivial⟩,⟨⟨_,_,rfl,rfl,rfl,rfl⟩,trivial⟩,by rw [hk]; decide⟩⟩)))
  simp only [c11_,Bool.true_or,Bool.false_or]
 intro bb3 hbb3
 subst hbb3
 refine w_if rfl (fun c12 => ?_) (fun c12 => ?_)
 ·try simp only [sB,Bool.or_eq_true,Bool.or_eq_false_iff] at c12
  refine w_R (qm hnt rfl rfl (qo hnt rfl (s_callF rfl rfl rfl (w_reply_num b cl_b 0 (by omega) (by omega)) rfl ?_)))
  refine qm hnt rfl rfl (qo hnt rfl (s_callF rfl rfl rfl (w_reply_num b cl_b 1 (by omega) (by omega)) rfl ?_))
  refine qo hnt rfl (s_fa_ptr tab_53 rfl rfl tab_3 (by decide) rfl ?_)
  refine qo hnt rfl (s_store_ptr tab_3 rfl rfl rfl rfl rfl (Nat.le_of_ble_eq_true rfl) ?_)
  refine qo hnt rfl (s_fa_ptr tab_53 rfl rfl tab_3 (by decide) rfl ?_)
  refine qo hnt rfl (s_store_ptr tab_3 rfl rfl rfl rfl rfl (Nat.le_of_ble_eq_true rfl) ?_)
  refine r_set [(4,PV.ptr 0 0)] [(0,.obj [pN (UInt8.toNat e1),pI 0,pI (getV b (1 + 2 * (0 : Int))),pI (getV b (1 + 2 * (1 : Int))),pI 0,pNil,pNil,p16 0,p16 0,pNil])] 1 ⟨rfl,trivial⟩ rfl rfl (r_end (q_block (q_then (w_seq (w_R ?_)))))
  refine qo hnt rfl (s_load_ptr tab_53 rfl rfl rfl (Nat.le_of_ble_eq_true rfl) ?_)
  refine qo hnt rfl (s_store_ptr tab_53 rfl rfl rfl rfl rfl (Nat.le_of_ble_eq_true rfl) ?_)
  refine r_set [(4,PV.ptr 0 0)] [(0,.obj [pN (UInt8.toNat e1),pI 0,pI (getV b (1 + 2 * (0 : Int))),pI (getV b (1 + 2 * (1 : Int))),pI 0,pNil,pNil,p16 0,p16 0,pNil])] 1 ⟨rfl,trivial⟩ rfl rfl (r_end (q_then ?_))
  have hz11 : ((UInt8.toNat e1 : Nat) : Int) = G.fn ∧ 0 = G.code ∧ (getV b (1 + 2 * (0 : Int))) = G.at_ ∧ (getV b (1 + 2 * (1 : Int))) = G.count ∧ 0 = G.sub ∧ ([] : List Bool) = G.bits ∧ ([] : List UInt16) = G.vals ∧ 0 = G.and_ ∧ 0 = G.or_ ∧ ([] : List UInt8) = G.data := by and_intros <;> (first|(rw [hG,takeP_15 hb0 (by omega) (by omega)]; done)|(rw [hG,takeP_15 hb0 (by omega) (by omega)]; rfl))
  refine w_leO (n := 0) (ds := cReply G) rfl ⟨le_of_eq (congrArg pI hz11.1),le_of_eq (congrArg pI hz11.2.1),le_of_eq (congrArg pI hz11.2.2.1),le_of_eq (congrArg pI hz11.2.2.2.1),le_of_eq (congrArg pI hz11.2.2.2.2.1),le_tr (le_nilS 1 false) (le_of_eq (congrArg (fun z => pS 1 false encBo z) hz11.2.2.2.2.2.1)),le_tr (le_nilS 1 false) (le_of_eq (congrArg (fun z => pS 1 false enc16 z) hz11.2.2.2.2.2.2.1)),le_of_eq (congrArg p16 hz11.2.2.2.2.2.2.2.1),le_of_eq (congrArg p16 hz11.2.2.2.2.2.2.2.2.1),le_tr (le_nilS 1 false) (le_of_eq (congrArg (fun z => pS 1 false enc8 z) hz11.2.2.2.2.2.2.2.2.2)),trivial⟩ (w_ret ?_)
  exact fin_plain (ret_cell tab_53 (by decide) rfl rfl (Nat.le_of_ble_eq_true rfl) rfl ret_nil) rfl rfl ⟨rfl,rfl,rfl⟩
 try simp only [sB,Bool.or_eq_true,Bool.or_eq_false_iff] at c12
 refine w_seq (w_R (qo hnt rfl (s_eql rfl rfl ?_)))
 refine qa hnt rfl rfl (r_end (q_then (w_if rfl (fun c13 => ?_) (fun c13 => ?_))))
 ·try simp only [sB] at c13
  refine w_R (qm hnt rfl rfl (qo hnt rfl (s_callF rfl rfl rfl (w_reply_num b cl_b 0 (by omega) (by omega)) rfl ?_)))
  refine qm hnt rfl rfl (qo hnt rfl (s_callF rfl rfl rfl (w_reply_num b cl_b 1 (by omega) (by omega)) rfl ?_))
  refine qo hnt rfl (s_cv16 tab_3 tab_44 rfl rfl rfl ?_)
  refine qm hnt rfl rfl (qo hnt rfl (s_callF rfl rfl rfl (w_reply_num b cl_b 2 (by omega) (by omega)) rfl ?_))
  refine qo hnt rfl (s_cv16 tab_3 tab_44 rfl rfl rfl ?_)
  refine qo hnt rfl (s_fa_ptr tab_53 rfl rfl tab_3 (by decide) rfl ?_)
  refine qo hnt rfl (s_store_ptr tab_3 rfl rfl rfl rfl rfl (Nat.le_of_ble_eq_true rfl) ?_)
  refine qo hnt rfl (s_fa_ptr tab_53 rfl rfl tab_44 (by decide) rfl ?_)
  refine qo hnt rfl (s_store_ptr tab_44 rfl rfl rfl rfl rfl (Nat.le_of_ble_eq_true rfl) ?_)
  refine qo hnt rfl (s_fa_ptr tab_53 rfl rfl tab_44 (by decide) rfl ?_)
  refine qo hnt rfl (s_store_ptr tab_44 rfl rfl rfl rfl rfl (Nat.le_of_ble_eq_true rfl) ?_)
  refine r_set [(4,PV.ptr 0 0)] [(0,.obj [pN (UInt8.toNat e1),pI 0,pI (getV b (1 + 2 * (0 : Int))),pI 0,pI 0,pNil,pNil,p16 (u16I (getV b (1 + 2 * (1 : Int)))),p16 (u16I (getV b (1 + 2 * (2 : Int)))),pNil])] 1 ⟨rfl,trivial⟩ rfl rfl (r_end (q_block (q_then (w_seq (w_R ?_)))))
  refine qo hnt rfl (s_load_ptr tab_53 rfl rfl rfl (Nat.le_of_ble_eq_true rfl) ?_)
  refine qo hnt rfl (s_store_ptr tab_53 rfl rfl rfl rfl rfl (Nat.le_of_ble_eq_true rfl) ?_)
  refine r_set [(4,PV.ptr 0 0)] [(0,.obj [pN (UInt8.toNat e1),pI 0,pI (getV b (1 + 2 * (0 : Int))),pI 0,pI 0,pNil,pNil,p16 (u16I (getV b (1 + 2 * (1 : Int)))),p16 (u16I (getV b (1 + 2 * (2 : Int)))),pNil])] 1 ⟨rfl,trivial⟩ rfl rfl (r_end (q_then ?_))
  have hz12 : ((UInt8.toNat e1 : Nat) : Int) = G.fn ∧ 0 = G.code ∧ (getV b (1 + 2 * (0 : Int))) = G.at_ ∧ 0 = G.count ∧ 0 = G.sub ∧ ([] : List Bool) = G.bits ∧ ([] : List UInt16) = G.vals ∧ (u16I (getV b (1 + 2 * (1 : Int)))) = G.and_ ∧ (u16I (getV b (1 + 2 * (2 : Int)))) = G.or_ ∧ ([] : List UInt8) = G.data := by and_intros <;> (first|(rw [hG,takeP_22 hb0 (by omega) (by omega)]; done)|(rw [hG,takeP_22 hb0 (by omega) (by omega)]; rfl))
  refine w_leO (n := 0) (ds := cReply G) rfl ⟨le_of_eq (congrArg pI hz12.1),le_of_eq (congrArg pI hz12.2.1),le_of_eq (congrArg pI hz12.2.2.1),le_of_eq (congrArg pI hz12.2.2.2.1),le_of_eq (congrArg pI hz12.2.2.2.2.1),le_tr (le_nilS 1 false) (le_of_eq (congrArg (fun z => pS 1 false encBo z) hz12.2.2.2.2.2.1)),le_tr (le_nilS 1 false) (le_of_eq (congrArg (fun z => pS 1 false enc16 z) hz12.2.2.2.2.2.2.1)),le_of_eq (congrArg p16 hz12.2.2.2.2.2.2.2.1),le_of_eq (congrArg p16 hz12.2.2.2.2.2.2.2.2.1),le_tr (le_nilS 1 false) (le_of_eq (congrArg (fun z => pS 1 false enc8 z) hz12.2.2.2.2.2.2.2.2.2)),trivial⟩ (w_ret ?_)
  exact fin_plain (ret_cell tab_53 (by decide) rfl rfl (Nat.le_of_ble_eq_true rfl) rfl ret_nil) rfl rfl ⟨rfl,rfl,rfl⟩
 try simp only [sB] at c13
 refine w_seq (w_R (qo hnt rfl (s_eql rfl rfl ?_)))
 refine qa hnt rfl rfl (r_end (q_then (w_if rfl (fun c14 => ?_) (fun c14 => ?_))))
 ·try simp only [sB] at c14
  refine w_R (qm hnt rfl rfl (qo hnt rfl (s_callX (r2 := PV.ref 1 0 none) (nx1 := 2) (H2 := [(0,.obj [pN (UInt8.toNat e1),pI 0,pI 0,pI 0,pI 0,pNil,pNil,p16 0,p16 0,pNil])]) (H3 := [(1,oB true 1 enc8 (b.drop (min b.length 2))),(0,.obj [pN (UInt8.toNat e1),pI 0,pI 0,pI 0,pI 0,pNil,pNil,p16 0,p16 0,pNil])]) [] [] rfl rfl rfl (handed_of (by decide) trivial) rfl rfl rfl rfl rfl rfl (w_slices_Clone_byte_byte (b.drop (min b.length 2)) cl_b (by (simp; omega))) rfl (dist_of rfl) rfl rfl rfl rfl ?_)))
  refine qo hnt rfl (s_fa_ptr tab_53 rfl rfl tab_51 (by decide) rfl ?_)
  refine qo hnt rfl (s_store_ptr tab_51 rfl rfl rfl rfl rfl (Nat.le_of_ble_eq_true rfl) ?_)
  refine r_set [(4,PV.ptr 0 0)] [(0,.obj [pN (UInt8.toNat e1),pI 0,pI 0,pI 0,pI 0,pNil,pNil,p16 0,p16 0,PV.ref 1 0 none]),(1,oB true 1 enc8 (b.drop (min b.length 2)))] 2 ⟨rfl,trivial⟩ rfl rfl (r_end (q_block (q_then (w_seq (w_R ?_)))))
  refine qo hnt rfl (s_load_ptr tab_53 rfl rfl rfl (Nat.le_of_ble_eq_true rfl) ?_)
  refine qo hnt rfl (s_store_ptr tab_53 rfl rfl rfl rfl rfl (Nat.le_of_ble_eq_true rfl) ?_)
  refine r_set [(4,PV.ptr 0 0)] [(0,.obj [pN (UInt8.toNat e1),pI 0,pI 0,pI 0,pI 0,pNil,pNil,p16 0,p16 0,PV.ref 1 0 none]),(1,oB true 1 enc8 (b.drop (min b.length 2)))] 2 ⟨rfl,trivial⟩ rfl rfl (r_end (q_then (w_frzC (n := 0) (j := 9) rfl rfl rfl rfl ?_)))
  have hz13 : (b.drop (min b.length 2)) = G.data := by ((rw [hG,takeP_17 hb0 (by omega) (by omega)]; done))
  refine w_leO (n := 0) (ds := [pN (UInt8.toNat e1),pI 0,pI 0,pI 0,pI 0,pNil,pNil,p16 0,p16 0,pS 1 false enc8 G.data]) rfl ⟨le_refl _,le_refl _,le_refl _,le_refl _,le_refl _,le_refl _,le_refl _,le_refl _,le_refl _,le_of_eq (congrArg (fun z => pS 1 false enc8 z) hz13),trivial⟩ ?_
  have hz14 : ((UInt8.toNat e1 : Nat) : Int) = G.fn ∧ 0 = G.code ∧ 0 = G.at_ ∧ 0 = G.count ∧ 0 = G.sub ∧ ([] : List Bool) = G.bits ∧ ([] : List UInt16) = G.vals ∧ 0 = G.and_ ∧ 0 = G.or_ := by and_intros <;> ((rw [hG,takeP_17 hb0 (by omega) (by omega)]; done))
  refine w_leO (n := 0) (ds := cReply G) rfl ⟨le_of_eq (congrArg pI hz14.1),le_of_eq (congrArg pI hz14.2.1),le_of_eq (congrArg pI hz14.2.2.1),le_of_eq (congrArg pI hz14.2.2.2.1),le_of_eq (congrArg pI hz14.2.2.2.2.1),le_tr (le_nilS 1 false) (le_of_eq (congrArg (fun z => pS 1 false encBo z) hz14.2.2.2.2.2.1)),le_tr (le_nilS 1 false) (le_of_eq (congrArg (fun z => pS 1 false enc16 z) hz14.2.2.2.2.2.2.1)),le_of_eq (congrArg p16 hz14.2.2.2.2.2.2.2.1),le_of_eq (congrArg p16 hz14.2.2.2.2.2.2.2.2),le_refl _,trivial⟩ (w_ret ?_)
  exact fin_plain (ret_cell tab_53 (by decide) rfl rfl (Nat.le_of_ble_eq_true rfl) rfl ret_nil) rfl rfl ⟨rfl,rfl,rfl⟩
 try simp only [sB] at c14
 refine w_skip (q_block (q_then (w_seq (w_R (qo hnt rfl (s_load_ptr tab_53 rfl rfl rfl (Nat.le_of_ble_eq_true rfl) ?_))))))
 refine qo hnt rfl (s_store_ptr tab_53 rfl rfl rfl rfl rfl (Nat.le_of_ble_eq_true rfl) ?_)
 refine r_set [(4,PV.ptr 0 0)] [(0,.obj [pN (UInt8.toNat e1),pI 0,pI 0,pI 0,pI 0,pNil,pNil,p16 0,p16 0,pNil])] 1 ⟨rfl,trivial⟩ rfl rfl (r_end (q_then ?_))
 have hz15 : ((UInt8.toNat e1 : Nat) : Int) = G.fn ∧ 0 = G.code ∧ 0 = G.at_ ∧ 0 = G.count ∧ 0 = G.sub ∧ ([] : List Bool) = G.bits ∧ ([] : List UInt16) = G.vals ∧ 0 = G.and_ ∧ 0 = G.or_ ∧ ([] : List UInt8) = G.data := by and_intros <;> ((rw [hG,takeP_0 hb0 (by omega) (by omega)]; done))
 refine w_leO (n := 0) (ds := cReply G) rfl ⟨le_of_eq (congrArg pI hz15.1),le_of_eq (congrArg pI hz15.2.1),le_of_eq (congrArg pI hz15.2.2.1),le_of_eq (congrArg pI hz15.2.2.2.1),le_of_eq (congrArg pI hz15.2.2.2.2.1),le_tr (le_nilS 1 false) (le_of_eq (congrArg (fun z => pS 1 false encBo z) hz15.2.2.2.2.2.1)),le_tr (le_nilS 1 false) (le_of_eq (congrArg (fun z => pS 1 false enc16 z) hz15.2.2.2.2.2.2.1)),le_of_eq (congrArg p16 hz15.2.2.2.2.2.2.2.1),le_of_eq (congrArg p16 hz15.2.2.2.2.2.2.2.2.1),le_tr (le_nilS 1 false) (le_of_eq (congrArg (fun z => pS 1 false enc8 z) hz15.2.2.2.2.2.2.2.2.2)),trivial⟩ (w_ret ?_)
 exact fin_plain (ret_cell tab_53 (by decide) rfl rfl (Nat.le_of_ble_eq_true rfl) rfl ret_nil) rfl rfl ⟨rfl,rfl,rfl⟩
theorem w_reply_Read (b : List UInt8) (cl_b : Bool) (q : TRequest) (R : TReply × Int) (hR : R = takeWith takeP b q) (hb : b.length ≤ 140737488351232) (hq : q.count ≤ 9223372036854775807 ∧ (b.length ≤ 17592186043904 ∨ q.count ≤ 140737488351232)) :
    T Try.prog 32 [pS 1 cl_b enc8 b,PV.f (eRequest q)] 0 [] (Ret (PV.tup [PV.f (eReply R.1),pI R.2]) 0 []) := by
 refine t_fun tabOk (n := 62) (rs := [.cell 4 53,.tmp 5]) Try.func32 rfl rfl rfl rfl (Nat.le_of_ble_eq_true rfl) ?_
 intro c hnt hk
 refine w_seq (w_R (qo hnt rfl (s_box rfl rfl ?_)))
 refine qo hnt rfl (s_alloc tab_53 ?_)
 refine qa hnt rfl rfl (r_set [(0,pS 1 cl_b enc8 b),(3,PV.ptr 0 0),(4,PV.ptr 1 0)] [(1,.obj [pI 0,pI 0,pI 0,pI 0,pI 0,pNil,pNil,p16 0,p16 0,pNil]),(0,.obj (cRequest q))] 2 ⟨rfl,rfl,rfl,trivial⟩ rfl rfl (r_end (q_then (w_seq (w_block ?_)))))
 refine w_seq (w_R (qm hnt rfl rfl (qo hnt rfl (s_lenM (l := b) tab_51 rfl (hM_sl (f := enc8) rfl) ?_))))
 refine qo hnt rfl (s_eql rfl rfl ?_)
 refine qa hnt rfl rfl (r_end (q_then (w_if rfl (fun c1 => ?_) (fun c1 => ?_))))
 ·try simp only [sB] at c1
  refine w_seq (w_R (qo hnt rfl (s_build tab_53 rfl rfl (b_nil ?_))))
  refine qo hnt rfl (s_store_ptr tab_53 rfl rfl rfl rfl rfl (Nat.le_of_ble_eq_true rfl) ?_)
  refine qa hnt rfl rfl (r_set [(4,PV.ptr 1 0),(5,pI 13)] [(1,.obj [pI 0,pI 0,pI 0,pI 0,pI 0,pNil,pNil,p16 0,p16 0,pNil]),(0,.obj (cRequest q))] 2 ⟨rfl,rfl,trivial⟩ rfl rfl (r_end (q_then ?_)))
  have hz1 : 0 = R.1.fn ∧ 0 = R.1.code ∧ 0 = R.1.at_ ∧ 0 = R.1.count ∧ 0 = R.1.sub ∧ ([] : List Bool) = R.1.bits ∧ ([] : List UInt16) = R.1.vals ∧ 0 = R.1.and_ ∧ 0 = R.1.or_ ∧ ([] : List UInt8) = R.1.data := by and_intros <;> ((rw [hR,takeW_1 (by omega)]; rfl))
  refine w_leO (n := 1) (ds := cReply R.1) rfl ⟨le_of_eq (congrArg pI hz1.1),le_of_eq (congrArg pI hz1.2.1),le_of_eq (congrArg pI hz1.2.2.1),le_of_eq (congrArg pI hz1.2.2.2.1),le_of_eq (congrArg pI hz1.2.2.2.2.1),le_tr (le_nilS 1 false) (le_of_eq (congrArg (fun z => pS 1 false encBo z) hz1.2.2.2.2.2.1)),le_tr (le_nilS 1 false) (le_of_eq (congrArg (fun z => pS 1 false enc16 z) hz1.2.2.2.2.2.2.1)),le_of_eq (congrArg p16 hz1.2.2.2.2.2.2.2.1),le_of_eq (congrArg p16 hz1.2.2.2.2.2.2.2.2.1),le_tr (le_nilS 1 false) (le_of_eq (congrArg (fun z => pS 1 false enc8 z) hz1.2.2.2.2.2.2.2.2.2)),trivial⟩ (w_le (s := 5) (y := pI R.2) rfl (le_of_eq (congrArg pI (show 13 = R.2 by (rw [hR,takeW_1 (by omega)]; done)))) (w_ret (q_block_ret (q_then_ret ?_))))
  exact fin_plain (ret_cell tab_53 (by decide) rfl rfl (Nat.le_of_ble_eq_true rfl) rfl (ret_tmp rfl ret_nil)) rfl rfl ⟨rfl,rfl,rfl⟩
 try simp only [sB] at c1
 refine w_seq (W_drawn tabOk mixed hnt [[],[0],[0,1],[0,1,2],[0,1,2,3],[0,1,2,3,4],[0,1,2,3,4,5],[0,1,2,3,4,5,6],[0,1,2,3],[0,1,2,3,8],(.range 10),(.range 11),(.range 12),(.range 13),(.range 14),(.range 15),(.range 16),(.range 12),(.range 12 ++ [17]),(.range 19),(.range 20),(.range 21),(.range 22)] (by kernel_rfl) (d_op (x_run0 [(3,PV.ptr 0 0)] [] rfl rfl rfl rfl (s_fa_ptr tab_46 rfl rfl tab_3 (by decide) rfl ⟨rfl,rfl,rfl⟩) (d_op (xL [(15,PV.ptr 0 0)] [0] [(0,.obj (cRequest q))] rfl rfl rfl rfl rfl (s_load_ptr1 tab_3 rfl rfl rfl rfl rfl ⟨rfl,rfl,rfl⟩) ⟨rfl,trivial⟩ rfl ?_)))))
 refine d_op (x_run0 [(16,pI q.fn)] [0,1] rfl rfl rfl rfl (s_lss rfl rfl ⟨rfl,rfl,rfl⟩) (d_op (x_run0 [(17,pB (decide (q.fn < 0)))] [0,1,2] rfl rfl rfl rfl (s_move rfl ⟨rfl,rfl,rfl⟩) (x_if [(18,pB (decide (q.fn < 0))),(0,pS 1 cl_b enc8 b)] [0,1,2,3] rfl rfl rfl rfl (fun g1 => ?_) (fun g1 => ?_)))))
 ·have g1' := g1
  try simp only [sB] at g1'
  refine x_run0 [(18,pB (decide (q.fn < 0))),(0,pS 1 cl_b enc8 b)] [0,1,2,3] rfl rfl rfl rfl (s_move rfl ⟨rfl,rfl,rfl⟩) (xy [(18,pB (decide (q.fn < 0))),(19,pS 1 cl_b enc8 b)] [0,1,2,3,4] rfl rfl rfl rfl g1 ?_)
  obtain ⟨e1,he1⟩ := get_of_lt b (i := 0) (by omega)
  refine x_run0 [(18,pB (decide (q.fn < 0))),(19,pS 1 cl_b enc8 b)] [0,1,2,3,4] rfl rfl rfl rfl (s_iaM (q := 0) (b := e1) (f := enc8) tab_51 rfl tab_5 rfl rfl (by omega) rfl he1 ⟨rfl,rfl,rfl⟩) (xy [(18,pB (decide (q.fn < 0))),(20,PV.f (.ro (enc8 e1)))] [0,1,2,3,4,5] rfl rfl rfl rfl g1 (x_run0 [(18,pB (decide (q.fn < 0))),(20,PV.f (.ro (enc8 e1)))] [0,1,2,3,4,5] rfl rfl rfl rfl (s_load_ro1 tab_5 rfl rfl rfl rfl ⟨rfl,rfl,rfl⟩) (xy [(18,pB (decide (q.fn < 0))),(21,p8 e1)] [0,1,2,3,4,5,6] rfl rfl rfl rfl g1 (x_run0 [(18,pB (decide (q.fn < 0))),(21,p8 e1)] [0,1,2,3,4,5,6] rfl rfl rfl rfl (s_cvN (a := UInt8.toNat e1) tab_5 tab_3 rfl rfl rfl (by omega) (by have := lt8 e1; omega) ⟨rfl,rfl,rfl⟩) (xy [(18,pB (decide (q.fn < 0))),(3,PV.ptr 0 0)] [0,1,2,3] rfl rfl rfl rfl g1 ?_)))))
  refine x_run0 [(18,pB (decide (q.fn < 0))),(3,PV.ptr 0 0)] [0,1,2,3] rfl rfl rfl rfl (s_fa_ptr tab_46 rfl rfl tab_3 (by decide) rfl ⟨rfl,rfl,rfl⟩) (xy [(18,pB (decide (q.fn < 0))),(23,PV.ptr 0 0)] [0,1,2,3,8] rfl rfl rfl rfl g1 (xL [(18,pB (decide (q.fn < 0))),(23,PV.ptr 0 0)] [0,1,2,3,8] [(0,.obj (cRequest q))] rfl rfl rfl rfl rfl (s_load_ptr1 tab_3 rfl rfl rfl rfl rfl ⟨rfl,rfl,rfl⟩) ⟨rfl,trivial⟩ rfl (xy [(18,pB (decide (q.fn < 0))),(22,pN (UInt8.toNat e1)),(24,pI q.fn)] (.range 10) rfl rfl rfl rfl g1 (x_run0 [(18,pB (decide (q.fn < 0))),(22,pN (UInt8.toNat e1)),(24,pI q.fn)] (.range 10) rfl rfl rfl rfl (s_neq rfl rfl ⟨rfl,rfl,rfl⟩) (xy [(18,pB (decide (q.fn < 0))),(25,pB (!decide (((UInt8.toNat e1 : Nat) : Int) = q.fn)))] (.range 11) rfl rfl rfl rfl g1 ?_)))))
  refine x_run0 [(18,pB (decide (q.fn < 0))),(25,pB (!decide (((UInt8.toNat e1 : Nat) : Int) = q.fn)))] (.range 11) rfl rfl rfl rfl (s_move rfl ⟨rfl,rfl,rfl⟩) (x_if [(26,pB (!decide (((UInt8.toNat e1 : Nat) : Int) = q.fn))),(0,pS 1 cl_b enc8 b)] (.range 12) rfl rfl rfl rfl (fun g2 => ?_) (fun g2 => ?_))
  ·have g2' := g2
   try simp only [sB] at g2'
   have hel := e1.toNat_lt
   refine x_run0 [(26,pB (!decide (((UInt8.toNat e1 : Nat) : Int) = q.fn))),(0,pS 1 cl_b enc8 b)] (.range 12) rfl rfl rfl rfl (s_move rfl ⟨rfl,rfl,rfl⟩) (xy [(26,pB (!decide (((UInt8.toNat e1 : Nat) : Int) = q.fn))),(27,pS 1 cl_b enc8 b)] (.range 13) rfl rfl rfl rfl g2 (x_run0 [(26,pB (!decide (((UInt8.toNat e1 : Nat) : Int) = q.fn))),(27,pS 1 cl_b enc8 b)] (.range 13) rfl rfl rfl rfl (s_iaM (q := 0) (b := e1) (f := enc8) tab_51 rfl tab_5 rfl rfl (by omega) rfl he1 ⟨rfl,rfl,rfl⟩) (xy [(26,pB (!decide (((UInt8.toNat e1 : Nat) : Int) = q.fn))),(28,PV.f (.ro (enc8 e1)))] (.range 14) rfl rfl rfl rfl g2 (x_run0 [(26,pB (!decide (((UInt8.toNat e1 : Nat) : Int) = q.fn))),(28,PV.f (.ro (enc8 e1)))] (.range 14) rfl rfl rfl rfl (s_load_ro1 tab_5 rfl rfl rfl rfl ⟨rfl,rfl,rfl⟩) (xy [(26,pB (!decide (((UInt8.toNat e1 : Nat) : Int) = q.fn))),(29,p8 e1)] (.range 15) rfl rfl rfl rfl g2 ?_)))))
   refine x_run0 [(26,pB (!decide (((UInt8.toNat e1 : Nat) : Int) = q.fn))),(29,p8 e1)] (.range 15) rfl rfl rfl rfl (s_cvN (a := UInt8.toNat e1) tab_5 tab_3 rfl rfl rfl (by omega) (by have := lt8 e1; omega) ⟨rfl,rfl,rfl⟩) (xy [(26,pB (!decide (((UInt8.toNat e1 : Nat) : Int) = q.fn))),(30,pN (UInt8.toNat e1))] (.range 16) rfl rfl rfl rfl g2 (x_run0 [(26,pB (!decide (((UInt8.toNat e1 : Nat) : Int) = q.fn))),(30,pN (UInt8.toNat e1))] (.range 16) rfl rfl rfl rfl (s_subi (r := ((UInt8.toNat e1 : Nat) : Int) - 128) rfl rfl rfl (by omega) ⟨rfl,rfl,rfl⟩) (xy [(26,pB (!decide (((UInt8.toNat e1 : Nat) : Int) = q.fn))),(3,PV.ptr 0 0)] (.range 12) rfl rfl rfl rfl g2 (x_run0 [(26,pB (!decide (((UInt8.toNat e1 : Nat) : Int) = q.fn))),(3,PV.ptr 0 0)] (.range 12) rfl rfl rfl rfl (s_fa_ptr tab_46 rfl rfl tab_3 (by decide) rfl ⟨rfl,rfl,rfl⟩) (xy [(26,pB (!decide (((UInt8.toNat e1 : Nat) : Int) = q.fn))),(32,PV.ptr 0 0)] (.range 12 ++ [17]) rfl rfl rfl rfl g2 ?_)))))
   refine xL [(26,pB (!decide (((UInt8.toNat e1 : Nat) : Int) = q.fn))),(32,PV.ptr 0 0)] (.range 12 ++ [17]) [(0,.obj (cRequest q))] rfl rfl rfl rfl rfl (s_load_ptr1 tab_3 rfl rfl rfl rfl rfl ⟨rfl,rfl,rfl⟩) ⟨rfl,trivial⟩ rfl (xy [(26,pB (!decide (((UInt8.toNat e1 : Nat) : Int) = q.fn))),(31,pI (((UInt8.toNat e1 : Nat) : Int) - 128)),(33,pI q.fn)] (.range 19) rfl rfl rfl rfl g2 (x_run0 [(26,pB (!decide (((UInt8.toNat e1 : Nat) : Int) = q.fn))),(31,pI (((UInt8.toNat e1 : Nat) : Int) - 128)),(33,pI q.fn)] (.range 19) rfl rfl rfl rfl (s_neq rfl rfl ⟨rfl,rfl,rfl⟩) (xy [(18,pB (decide (q.fn < 0))),(26,pB (!decide (((UInt8.toNat e1 : Nat) : Int) = q.fn))),(34,pB (!decide (((UInt8.toNat e1 : Nat) : Int) - 128 = q.fn)))] (.range 20) rfl rfl rfl rfl g1 (x_run0 [(18,pB (decide (q.fn < 0))),(26,pB (!decide (((UInt8.toNat e1 : Nat) : Int) = q.fn))),(34,pB (!decide (((UInt8.toNat e1 : Nat) : Int) - 128 = q.fn)))] (.range 20) rfl rfl rfl rfl (s_pick_t rfl g2 rfl ⟨rfl,rfl,rfl⟩) (d_op ?_)))))
   refine x_run0 [(18,pB (decide (q.fn < 0))),(35,pB (!decide (((UInt8.toNat e1 : Nat) : Int) - 128 = q.fn)))] (.range 21) rfl rfl rfl rfl (s_pick_f rfl g1 rfl ⟨rfl,rfl,rfl⟩) (d_op (x_run0 [(36,pB (!decide (((UInt8.toNat e1 : Nat) : Int) - 128 = q.fn)))] (.range 22) rfl rfl rfl rfl (s_assign rfl ⟨rfl,rfl,rfl⟩) (d_end ⟨by kernel_rfl, ?_⟩)))
   refine q_then (w_if rfl (fun c2 => ?_) (fun c2 => ?_))
   ·try simp only [sB] at c2
    have hb0 : b.getD 0 0 = e1 := by rw [List.getD_eq_getElem?_getD,he1]; rfl
    refine w_seq (w_R (qo hnt rfl (s_build tab_53 rfl rfl (b_nil ?_))))
    refine qo hnt rfl (s_store_ptr tab_53 rfl rfl rfl rfl rfl (Nat.le_of_ble_eq_true rfl) ?_)
    refine qa hnt rfl rfl (r_set [(4,PV.ptr 1 0),(5,pI 12)] [(1,.obj [pI 0,pI 0,pI 0,pI 0,pI 0,pNil,pNil,p16 0,p16 0,pNil]),(0,.obj (cRequest q))] 2 ⟨rfl,rfl,trivial⟩ rfl rfl (r_end (q_then ?_)))
    have hz2 : 0 = R.1.fn ∧ 0 = R.1.code ∧ 0 = R.1.at_ ∧ 0 = R.1.count ∧ 0 = R.1.sub ∧ ([] : List Bool) = R.1.bits ∧ ([] : List UInt16) = R.1.vals ∧ 0 = R.1.and_ ∧ 0 = R.1.or_ ∧ ([] : List UInt8) = R.1.data := by and_intros <;> ((rw [hR,takeW_2 (by omega) hb0 (by omega)]; rfl))
    refine w_leO (n := 1) (ds := cReply R.1) rfl ⟨le_of_eq (congrArg pI hz2.1),le_of_eq (congrArg pI hz2.2.1),le_of_eq (congrArg pI hz2.2.2.1),le_of_eq (congrArg pI hz2.2.2.2.1),le_of_eq (congrArg pI hz2.2.2.2.2.1),le_tr (le_nilS 1 false) (le_of_eq (congrArg (fun z => pS 1 false encBo z) hz2.2.2.2.2.2.1)),le_tr (le_nilS 1 false) (le_of_eq (congrArg (fun z => pS 1 false enc16 z) hz2.2.2.2.2.2.2.1)),le_of_eq (congrArg p16 hz2.2.2.2.2.2.2.2.1),le_of_eq (congrArg p16 hz2.2.2.2.2.2.2.2.2.1),le_tr (le_nilS 1 false) (le_of_eq (congrArg (fun z => pS 1 false enc8 z) hz2.2.2.2.2.2.2.2.2.2)),trivial⟩ (w_le (s := 5) (y := pI R.2) rfl (le_of_eq (congrArg pI (show 12 = R.2 by (rw [hR,takeW_2 (by omega) hb0 (by omega)]; done)))) (w_ret (q_block_ret (q_then_ret ?_))))
    exact fin_plain (ret_cell tab_53 (by decide) rfl rfl (Nat.le_of_ble_eq_true rfl) rfl (ret_tmp rfl ret_nil)) rfl rfl ⟨rfl,rfl,rfl⟩
   try simp only [sB] at c2
   refine w_skip (q_block (q_then (w_seq ?_)))
   have hb0 : b.getD 0 0 = e1 := by rw [List.getD_eq_getElem?_getD,he1]; rfl
   refine w_R (qm hnt rfl rfl (qo hnt rfl (s_load_ptr tab_46 rfl rfl rfl (Nat.le_of_ble_eq_true rfl) ?_)))
   obtain ⟨G1,hG1⟩ : ∃ z : TReply,z = takeP b q := ⟨_,rfl⟩
   refine qo hnt rfl (s_callF rfl rfl rfl (w_reply_guess b cl_b q G1 hG1 (by omega) (by omega) (by omega)) rfl ?_)
   refine qo hnt rfl (s_alloc tab_53 ?_)
   refine qo hnt rfl (s_store_ptr tab_53 rfl rfl rfl rfl rfl (Nat.le_of_ble_eq_true rfl) ?_)
   refine r_set [(0,pS 1 cl_b enc8 b),(3,PV.ptr 0 0),(4,PV.ptr 1 0),(6,PV.ptr 2 0)] [(2,.obj (cReply G1)),(1,.obj [pI 0,pI 0,pI 0,pI 0,pI 0,pNil,pNil,p16 0,p16 0,pNil]),(0,.obj (cRequest q))] 3 ⟨rfl,rfl,rfl,rfl,trivial⟩ rfl rfl (r_end (q_then (w_seq (w_seq ?_))))
   have hgl := takeP_len (b := b) (q := q) (by omega) (by omega)
   rw [← hG1] at hgl
   refine w_R (qo hnt rfl (s_load_ptr tab_53 rfl rfl rfl (Nat.le_of_ble_eq_true rfl) ?_))
   refine qo hnt rfl (s_callF rfl rfl rfl (w_reply_Bytes G1 (by omega)) rfl ?_)
   refine qm hnt rfl rfl (qo hnt rfl (s_extract rfl rfl ?_))
   refine qo hnt rfl (s_extract rfl rfl ?_)
   refine qa hnt rfl rfl (qa hnt rfl rfl (r_end (q_then (w_seq ?_))))
   have hlE := layE_len G1
   refine w_R (qm hnt rfl rfl (qo hnt rfl (s_neq rfl rfl ?_)))
   refine qm hnt rfl rfl (r_cut0 5 [(3,PV.ptr 0 0),(4,PV.ptr 1 0),(6,PV.ptr 2 0),(53,pB ((!decide (goodR G1 = 0)) || (!(decide ((layE G1) = b)))))] ?_ ?_)
   ·refine r_if tabOk hnt rfl rfl rfl (fun g3 => ?_) (fun g3 => ?_)
    ·have g3' := g3
     try simp only [sB] at g3'
     refine qm hnt rfl rfl (ry hnt rfl rfl rfl g3 (qm hnt rfl rfl (ry hnt rfl rfl rfl g3 (qo hnt rfl (s_callF rfl rfl rfl (w_slices_Equal_byte_byte (layE G1) false b cl_b (by omega)) rfl ?_)))))
     refine ry hnt rfl rfl rfl g3 (qo hnt rfl (s_not rfl ?_))
     refine qo hnt rfl (s_pick_f rfl g3 rfl ?_)
     refine r_eq (s := 53) (y := pB ((!decide (goodR G1 = 0)) || (!(decide ((layE G1) = b))))) rfl (mix_of g3) ?_
     exact r_mid ⟨⟨rfl,rfl,rfl,rfl,trivial⟩,rfl,rfl⟩
    ·have g3' := g3
     try simp only [sB] at g3'
     refine rn hnt rfl rfl rfl g3 (rn hnt rfl rfl rfl g3 (rn hnt rfl rfl rfl g3 (qo hnt rfl (s_pick_t rfl g3 rfl ?_))))
     refine r_eq (s := 53) (y := pB ((!decide (goodR G1 = 0)) || (!(decide ((layE G1) = b))))) rfl (mix_ot _ g3) ?_
     exact r_mid ⟨⟨rfl,rfl,rfl,rfl,trivial⟩,rfl,rfl⟩
   ·refine qm hnt rfl rfl (r_cut0 5 [(4,PV.ptr 1 0),(6,PV.ptr 2 0),(59,pB (((!decide (goodR G1 = 0)) || (!(decide ((layE G1) = b)))) || (!(decide (countOk G1 q)))))] ?_ ?_)
    ·refine r_if tabOk hnt rfl rfl rfl (fun g4 => ?_) (fun g4 => ?_)
     ·have g4' := g4
      try simp only [sB] at g4'
      refine qo hnt rfl (s_load_ptr tab_53 rfl rfl rfl (Nat.le_of_ble_eq_true rfl) ?_)
      refine ry hnt rfl rfl rfl g4 (qo hnt rfl (s_load_ptr tab_46 rfl rfl rfl (Nat.le_of_ble_eq_true rfl) ?_))
      refine ry hnt rfl rfl rfl g4 (qo hnt rfl (s_callF rfl rfl rfl (w_reply_asked G1 q (by omega)) rfl ?_))
      refine ry hnt rfl rfl rfl g4 (qo hnt rfl (s_not rfl ?_))
      refine qo hnt rfl (s_pick_f rfl g4 rfl ?_)
      refine r_eq (s := 59) (y := pB (((!decide (goodR G1 = 0)) || (!(decide ((layE G1) = b)))) || (!(decide (countOk G1 q))))) rfl (mix_of g4) ?_
      exact r_mid ⟨⟨rfl,rfl,rfl,trivial⟩,rfl,rfl⟩
     ·have g4' := g4
      try simp only [sB] at g4'
      refine rn hnt rfl rfl rfl g4 (rn hnt rfl rfl rfl g4 (rn hnt rfl rfl rfl g4 (qo hnt rfl (s_pick_t rfl g4 rfl ?_))))
      refine r_eq (s := 59) (y := pB (((!decide (goodR G1 = 0)) || (!(decide ((layE G1) = b)))) || (!(decide (countOk G1 q))))) rfl (mix_ot _ g4) ?_
      exact r_mid ⟨⟨rfl,rfl,rfl,trivial⟩,rfl,rfl⟩
    ·refine r_end (q_then (w_if rfl (fun c3 => ?_) (fun c3 => ?_)))
     ·have c3_ := c3
      try simp only [sB] at c3
      refine w_seq (w_R (qo hnt rfl (s_build tab_53 rfl rfl (b_nil ?_))))
      refine qo hnt rfl (s_store_ptr tab_53 rfl rfl rfl rfl rfl (Nat.le_of_ble_eq_true rfl) ?_)
      refine qa hnt rfl rfl (r_set [(4,PV.ptr 1 0),(5,pI 12)] [(1,.obj [pI 0,pI 0,pI 0,pI 0,pI 0,pNil,pNil,p16 0,p16 0,pNil]),(2,.obj (cReply G1)),(0,.obj (cRequest q))] 3 ⟨rfl,rfl,trivial⟩ rfl rfl (r_end (q_then ?_)))
      have hz3 : 0 = R.1.fn ∧ 0 = R.1.code ∧ 0 = R.1.at_ ∧ 0 = R.1.count ∧ 0 = R.1.sub ∧ ([] : List Bool) = R.1.bits ∧ ([] : List UInt16) = R.1.vals ∧ 0 = R.1.and_ ∧ 0 = R.1.or_ ∧ ([] : List UInt8) = R.1.data := by and_intros <;> ((rw [hR,takeW_3 (by omega) hb0 (by omega) hG1 (fun x y z => by simp [x,layE_yes x,y,z] at c3_)]; rfl))
      refine w_leO (n := 1) (ds := cReply R.1) rfl ⟨le_of_eq (congrArg pI hz3.1),le_of_eq (congrArg pI hz3.2.1),le_of_eq (congrArg pI hz3.2.2.1),le_of_eq (congrArg pI hz3.2.2.2.1),le_of_eq (congrArg pI hz3.2.2.2.2.1),le_tr (le_nilS 1 false) (le_of_eq (congrArg (fun z => pS 1 false encBo z) hz3.2.2.2.2.2.1)),le_tr (le_nilS 1 false) (le_of_eq (congrArg (fun z => pS 1 false enc16 z) hz3.2.2.2.2.2.2.1)),le_of_eq (congrArg p16 hz3.2.2.2.2.2.2.2.1),le_of_eq (congrArg p16 hz3.2.2.2.2.2.2.2.2.1),le_tr (le_nilS 1 false) (le_of_eq (congrArg (fun z => pS 1 false enc8 z) hz3.2.2.2.2.2.2.2.2.2)),trivial⟩ (w_le (s := 5) (y := pI R.2) rfl (le_of_eq (congrArg pI (show 12 = R.2 by (rw [hR,takeW_3 (by omega) hb0 (by omega) hG1 (fun x y z => by simp [x,layE_yes x,y,z] at c3_)]; done)))) (w_ret (q_then_ret ?_)))
      exact fin_plain (ret_cell tab_53 (by decide) rfl rfl (Nat.le_of_ble_eq_true rfl) rfl (ret_tmp rfl ret_nil)) rfl rfl ⟨rfl,rfl,rfl⟩
     have c3_ := c3
     try simp only [sB] at c3
     refine w_skip (q_then (w_seq (w_R (qo hnt rfl (s_load_ptr tab_53 rfl rfl rfl (Nat.le_of_ble_eq_true rfl) ?_)))))
     refine qo hnt rfl (s_store_ptr tab_53 rfl rfl rfl rfl rfl (Nat.le_of_ble_eq_true rfl) ?_)
     refine qa hnt rfl rfl (r_set [(4,PV.ptr 1 0),(5,pI 0)] [(1,.obj (cReply G1)),(2,.obj (cReply G1)),(0,.obj (cRequest q))] 3 ⟨rfl,rfl,trivial⟩ rfl rfl (r_end (q_then ?_)))
     have hz4 : G1.fn = R.1.fn ∧ G1.code = R.1.code ∧ G1.at_ = R.1.at_ ∧ G1.count = R.1.count ∧ G1.sub = R.1.sub ∧ G1.bits = R.1.bits ∧ G1.vals = R.1.vals ∧ G1.and_ = R.1.and_ ∧ G1.or_ = R.1.or_ ∧ G1.data = R.1.data := by and_intros <;> ((have hc9 := c3_; simp only [Bool.or_eq_false_iff,Bool.not_eq_false',decide_eq_true_eq] at hc9; obtain ⟨⟨x,y⟩,z⟩ := hc9; rw [layE_yes x] at y; rw [hR,takeW_4 (by omega) hb0 (by omega) hG1 x y z]; done))
     refine w_leO (n := 1) (ds := cReply R.1) rfl ⟨le_of_eq (congrArg pI hz4.1),le_of_eq (congrArg pI hz4.2.1),le_of_eq (congrArg pI hz4.2.2.1),le_of_eq (congrArg pI hz4.2.2.2.1),le_of_eq (congrArg pI hz4.2.2.2.2.1),le_of_eq (congrArg (fun z => pS 1 false encBo z) hz4.2.2.2.2.2.1),le_of_eq (congrArg (fun z => pS 1 false enc16 z) hz4.2.2.2.2.2.2.1),le_of_eq (congrArg p16 hz4.2.2.2.2.2.2.2.1),le_of_eq (congrArg p16 hz4.2.2.2.2.2.2.2.2.1),le_of_eq (congrArg (fun z => pS 1 false enc8 z) hz4.2.2.2.2.2.2.2.2.2),trivial⟩ (w_le (s := 5) (y := pI R.2) rfl (le_of_eq (congrArg pI (show 0 = R.2 by (have hc9 := c3_; simp only [Bool.or_eq_false_iff,Bool.not_eq_false',decide_eq_true_eq] at hc9; obtain ⟨⟨x,y⟩,z⟩ := hc9; rw [layE_yes x] at y; rw [hR,takeW_4 (by omega) hb0 (by omega) hG1 x y z]; done)))) (w_ret ?_))
     exact fin_plain (ret_cell tab_53 (by decide) rfl rfl (Nat.le_of_ble_eq_true rfl) rfl (ret_tmp rfl ret_nil)) rfl rfl ⟨rfl,rfl,rfl⟩
  have g2' := g2
  try simp only [sB] at g2'
  refine xn [(26,pB (!decide (((UInt8.toNat e1 : Nat) : Int) = q.fn))),(27,undefP)] (.range 13) rfl rfl rfl rfl g2 (xn [(26,pB (!decide (((UInt8.toNat e1 : Nat) : Int) = q.fn))),(28,undefP)] (.range 14) rfl rfl rfl rfl g2 (xn [(26,pB (!decide (((UInt8.toNat e1 : Nat) : Int) = q.fn))),(29,undefP)] (.range 15) rfl rfl rfl rfl g2 (xn [(26,pB (!decide (((UInt8.toNat e1 : Nat) : Int) = q.fn))),(30,undefP)] (.range 16) rfl rfl rfl rfl g2 (xn [(26,pB (!decide (((UInt8.toNat e1 : Nat) : Int) = q.fn))),(3,PV.ptr 0 0)] (.range 12) rfl rfl rfl rfl g2 (xn [(26,pB (!decide (((UInt8.toNat e1 : Nat) : Int) = q.fn))),(32,undefP)] (.range 12 ++ [17]) rfl rfl rfl rfl g2 ?_)))))
  refine xn [(26,pB (!decide (((UInt8.toNat e1 : Nat) : Int) = q.fn))),(31,undefP),(33,undefP)] (.range 19) rfl rfl rfl rfl g2 (xy [(18,pB (decide (q.fn < 0))),(26,pB (!decide (((UInt8.toNat e1 : Nat) : Int) = q.fn))),(34,undefP)] (.range 20) rfl rfl rfl rfl g1 (x_run0 [(18,pB (decide (q.fn < 0))),(26,pB (!decide (((UInt8.toNat e1 : Nat) : Int) = q.fn))),(34,undefP)] (.range 20) rfl rfl rfl rfl (s_pick_f rfl g2 rfl ⟨rfl,rfl,rfl⟩) (d_op (x_run0 [(18,pB (decide (q.fn < 0))),(35,pB false)] (.range 21) rfl rfl rfl rfl (s_pick_f rfl g1 rfl ⟨rfl,rfl,rfl⟩) (d_op ?_)))))
  refine x_run0 [(36,pB false)] (.range 22) rfl rfl rfl rfl (s_assign rfl ⟨rfl,rfl,rfl⟩) (d_end ⟨by kernel_rfl, ?_⟩)
  refine q_then (w_if rfl (fun e => absurd e (by decide)) (fun _ => ?_))
  refine w_skip (q_block (q_then (w_seq ?_)))
  have hb0 : b.getD 0 0 = e1 := by rw [List.getD_eq_getElem?_getD,he1]; rfl
  refine w_R (qm hnt rfl rfl (qo hnt rfl (s_load_ptr tab_46 rfl rfl rfl (Nat.le_of_ble_eq_true rfl) ?_)))
  obtain ⟨G2,hG2⟩ : ∃ z : TReply,z = takeP b q := ⟨_,rfl⟩
  refine qo hnt rfl (s_callF rfl rfl rfl (w_reply_guess b cl_b q G2 hG2 (by omega) (by omega) (by omega)) rfl ?_)
  refine qo hnt rfl (s_alloc tab_53 ?_)
  refine qo hnt rfl (s_store_ptr tab_53 rfl rfl rfl rfl rfl (Nat.le_of_ble_eq_true rfl) ?_)
  refine r_set [(0,pS 1 cl_b enc8 b),(3,PV.ptr 0 0),(4,PV.ptr 1 0),(6,PV.ptr 2 0)] [(2,.obj (cReply G2)),(1,.obj [pI 0,pI 0,pI 0,pI 0,pI 0,pNil,pNil,p16 0,p16 0,pNil]),(0,.obj (cRequest q))] 3 ⟨rfl,rfl,rfl,rfl,trivial⟩ rfl rfl (r_end (q_then (w_seq (w_seq ?_))))
  have hgl := takeP_len (b := b) (q := q) (by omega) (by omega)
  rw [← hG2] at hgl
  refine w_R (qo hnt rfl (s_load_ptr tab_53 rfl rfl rfl (Nat.le_of_ble_eq_true rfl) ?_))
  refine qo hnt rfl (s_callF rfl rfl rfl (w_reply_Bytes G2 (by omega)) rfl ?_)
  refine qm hnt rfl rfl (qo hnt rfl (s_extract rfl rfl ?_))
  refine qo hnt rfl (s_extract rfl rfl ?_)
  refine qa hnt rfl rfl (qa hnt rfl rfl (r_end (q_then (w_seq ?_))))
  have hlE := layE_len G2
  refine w_R (qm hnt rfl rfl (qo hnt rfl (s_neq rfl rfl ?_)))
  refine qm hnt rfl rfl (r_cut0 5 [(3,PV.ptr 0 0),(4,PV.ptr 1 0),(6,PV.ptr 2 0),(53,pB ((!decide (goodR G2 = 0)) || (!(decide ((layE G2) = b)))))] ?_ ?_)
  ·refine r_if tabOk hnt rfl rfl rfl (fun g5 => ?_) (fun g5 => ?_)
   ·have g5' := g5
    try simp only [sB] at g5'
    refine qm hnt rfl rfl (ry hnt rfl rfl rfl g5 (qm hnt rfl rfl (ry hnt rfl rfl rfl g5 (qo hnt rfl (s_callF rfl rfl rfl (w_slices_Equal_byte_byte (layE G2) false b cl_b (by omega)) rfl ?_)))))
    refine ry hnt rfl rfl rfl g5 (qo hnt rfl (s_not rfl ?_))
    refine qo hnt rfl (s_pick_f rfl g5 rfl ?_)
    refine r_eq (s := 53) (y := pB ((!decide (goodR G2 = 0)) || (!(decide ((layE G2) = b))))) rfl (mix_of g5) ?_
    exact r_mid ⟨⟨rfl,rfl,rfl,rfl,trivial⟩,rfl,rfl⟩
   ·have g5' := g5
    try simp only [sB] at g5'
    refine rn hnt rfl rfl rfl g5 (rn hnt rfl rfl rfl g5 (rn hnt rfl rfl rfl g5 (qo hnt rfl (s_pick_t rfl g5 rfl ?_))))
    refine r_eq (s := 53) (y := pB ((!decide (goodR G2 = 0)) || (!(decide ((layE G2) = b))))) rfl (mix_ot _ g5) ?_
    exact r_mid ⟨⟨rfl,rfl,rfl,rfl,trivial⟩,rfl,rfl⟩
  ·refine qm hnt rfl rfl (r_cut0 5 [(4,PV.ptr 1 0),(6,PV.ptr 2 0),(59,pB (((!decide (goodR G2 = 0)) || (!(decide ((layE G2) = b)))) || (!(decide (countOk G2 q)))))] ?_ ?_)
   ·refine r_if tabOk hnt rfl rfl rfl (fun g6 => ?_) (fun g6 => ?_)
    ·have g6' := g6
     try simp only [sB] at g6'
     refine qo hnt rfl (s_load_ptr tab_53 rfl rfl rfl (Nat.le_of_ble_eq_true rfl) ?_)
     refine ry hnt rfl rfl rfl g6 (qo hnt rfl (s_load_ptr tab_46 rfl rfl rfl (Nat.le_of_ble_eq_true rfl) ?_))
     refine ry hnt rfl rfl rfl g6 (qo hnt rfl (s_callF rfl rfl rfl (w_reply_asked G2 q (by omega)) rfl ?_))
     refine ry hnt rfl rfl rfl g6 (qo hnt rfl (s_not rfl ?_))
     refine qo hnt rfl (s_pick_f rfl g6 rfl ?_)
     refine r_eq (s := 59) (y := pB (((!decide (goodR G2 = 0)) || (!(decide ((layE G2) = b)))) || (!(decide (countOk G2 q))))) rfl (mix_of g6) ?_
     exact r_mid ⟨⟨rfl,rfl,rfl,trivial⟩,rfl,rfl⟩
    ·have g6' := g6
     try simp only [sB] at g6'
     refine rn hnt rfl rfl rfl g6 (rn hnt rfl rfl rfl g6 (rn hnt rfl rfl rfl g6 (qo hnt rfl (s_pick_t rfl g6 rfl ?_))))
     refine r_eq (s := 59) (y := pB (((!decide (goodR G2 = 0)) || (!(decide ((layE G2) = b)))) || (!(decide (countOk G2 q))))) rfl (mix_ot _ g6) ?_
     exact r_mid ⟨⟨rfl,rfl,rfl,trivial⟩,rfl,rfl⟩
   ·refine r_end (q_then (w_if rfl (fun c4 => ?_) (fun c4 => ?_)))
    ·have c4_ := c4
     try simp only [sB] at c4
     refine w_seq (w_R (qo hnt rfl (s_build tab_53 rfl rfl (b_nil ?_))))
     refine qo hnt rfl (s_store_ptr tab_53 rfl rfl rfl rfl rfl (Nat.le_of_ble_eq_true rfl) ?_)
     refine qa hnt rfl rfl (r_set [(4,PV.ptr 1 0),(5,pI 12)] [(1,.obj [pI 0,pI 0,pI 0,pI 0,pI 0,pNil,pNil,p16 0,p16 0,pNil]),(2,.obj (cReply G2)),(0,.obj (cRequest q))] 3 ⟨rfl,rfl,trivial⟩ rfl rfl (r_end (q_then ?_)))
     have hz5 : 0 = R.1.fn ∧ 0 = R.1.code ∧ 0 = R.1.at_ ∧ 0 = R.1.count ∧ 0 = R.1.sub ∧ ([] : List Bool) = R.1.bits ∧ ([] : List UInt16) = R.1.vals ∧ 0 = R.1.and_ ∧ 0 = R.1.or_ ∧ ([] : List UInt8) = R.1.data := by and_intros <;> ((rw [hR,takeW_3 (by omega) hb0 (by omega) hG2 (fun x y z => by simp [x,layE_yes x,y,z] at c4_)]; rfl))
     refine w_leO (n := 1) (ds := cReply R.1) rfl ⟨le_of_eq (congrArg pI hz5.1),le_of_eq (congrArg pI hz5.2.1),le_of_eq (congrArg pI hz5.2.2.1),le_of_eq (congrArg pI hz5.2.2.2.1),le_of_eq (congrArg pI hz5.2.2.2.2.1),le_tr (le_nilS 1 false) (le_of_eq (congrArg (fun z => pS 1 false encBo z) hz5.2.2.2.2.2.1)),le_tr (le_nilS 1 false) (le_of_eq (congrArg (fun z => pS 1 false enc16 z) hz5.2.2.2.2.2.2.1)),le_of_eq (congrArg p16 hz5.2.2.2.2.2.2.2.1),le_of_eq (congrArg p16 hz5.2.2.2.2.2.2.2.2.1),le_tr (le_nilS 1 false) (le_of_eq (congrArg (fun z => pS 1 false enc8 z) hz5.2.2.2.2.2.2.2.2.2)),trivial⟩ (w_le (s := 5) (y := pI R.2) rfl (le_of_eq (congrArg pI (show 12 = R.2 by (rw [hR,takeW_3 (by omega) hb0 (by omega) hG2 (fun x y z => by simp [x,layE_yes x,y,z] at c4_)]; done)))) (w_ret (q_then_ret ?_)))
     exact fin_plain (ret_cell tab_53 (by decide) rfl rfl (Nat.le_of_ble_eq_true rfl) rfl (ret_tmp rfl ret_nil)) rfl rfl ⟨rfl,rfl,rfl⟩
    have c4_ := c4
    try simp only [sB] at c4
    refine w_skip (q_then (w_seq (w_R (qo hnt rfl (s_load_ptr tab_53 rfl rfl rfl (Nat.le_of_ble_eq_true rfl) ?_)))))
    refine qo hnt rfl (s_store_ptr tab_53 rfl rfl rfl rfl rfl (Nat.le_of_ble_eq_true rfl) ?_)
    refine qa hnt rfl rfl (r_set [(4,PV.ptr 1 0),(5,pI 0)] [(1,.obj (cReply G2)),(2,.obj (cReply G2)),(0,.obj (cRequest q))] 3 ⟨rfl,rfl,trivial⟩ rfl rfl (r_end (q_then ?_)))
    have hz6 : G2.fn = R.1.fn ∧ G2.code = R.1.code ∧ G2.at_ = R.1.at_ ∧ G2.count = R.1.count ∧ G2.sub = R.1.sub ∧ G2.bits = R.1.bits ∧ G2.vals = R.1.vals ∧ G2.and_ = R.1.and_ ∧ G2.or_ = R.1.or_ ∧ G2.data = R.1.data := by and_intros <;> ((have hc9 := c4_; simp only [Bool.or_eq_false_iff,Bool.not_eq_false',decide_eq_true_eq] at hc9; obtain ⟨⟨x,y⟩,z⟩ := hc9; rw [layE_yes x] at y; rw [hR,takeW_4 (by omega) hb0 (by omega) hG2 x y z]; done))
    refine w_leO (n := 1) (ds := cReply R.1) rfl ⟨le_of_eq (congrArg pI hz6.1),le_of_eq (congrArg pI hz6.2.1),le_of_eq (congrArg pI hz6.2.2.1),le_of_eq (congrArg pI hz6.2.2.2.1),le_of_eq (congrArg pI hz6.2.2.2.2.1),le_of_eq (congrArg (fun z => pS 1 false encBo z) hz6.2.2.2.2.2.1),le_of_eq (congrArg (fun z => pS 1 false enc16 z) hz6.2.2.2.2.2.2.1),le_of_eq (congrArg p16 hz6.2.2.2.2.2.2.2.1),le_of_eq (congrArg p16 hz6.2.2.2.2.2.2.2.2.1),le_of_eq (congrArg (fun z => pS 1 false enc8 z) hz6.2.2.2.2.2.2.2.2.2),trivial⟩ (w_le (s := 5) (y := pI R.2) rfl (le_of_eq (congrArg pI (show 0 = R.2 by (have hc9 := c4_; simp only [Bool.or_eq_false_iff,Bool.not_eq_false',decide_eq_true_eq] at hc9; obtain ⟨⟨x,y⟩,z⟩ := hc9; rw [layE_yes x] at y; rw [hR,takeW_4 (by omega) hb0 (by omega) hG2 x y z]; done)))) (w_ret ?_))
    exact fin_plain (ret_cell tab_53 (by decide) rfl rfl (Nat.le_of_ble_eq_true rfl) rfl (ret_tmp rfl ret_nil)) rfl rfl ⟨rfl,rfl,rfl⟩
 have g1' := g1
 try simp only [sB] at g1'
 refine xn [(18,pB (decide (q.fn < 0))),(19,undefP)] [0,1,2,3,4] rfl rfl rfl rfl g1 (xn [(18,pB (decide (q.fn < 0))),(20,undefP)] [0,1,2,3,4,5] rfl rfl rfl rfl g1 (xn [(18,pB (decide (q.fn < 0))),(21,undefP)] [0,1,2,3,4,5,6] rfl rfl rfl rfl g1 (xn [(18,pB (decide (q.fn < 0))),(3,PV.ptr 0 0)] [0,1,2,3] rfl rfl rfl rfl g1 (xn [(18,pB (decide (q.fn < 0))),(23,undefP)] [0,1,2,3,8] rfl rfl rfl rfl g1 (xn [(18,pB (decide (q.fn < 0))),(22,undefP),(24,undefP)] (.range 10) rfl rfl rfl rfl g1 ?_)))))
 refine xn [(18,pB (decide (q.fn < 0))),(25,undefP)] (.range 11) rfl rfl rfl rfl g1 (x_undef [(26,undefP),(0,pS 1 cl_b enc8 b)] (.range 12) rfl rfl rfl rfl (x_undef [(26,undefP),(27,undefP)] (.range 13) rfl rfl rfl rfl (x_undef [(26,undefP),(28,undefP)] (.range 14) rfl rfl rfl rfl (x_undef [(26,undefP),(29,undefP)] (.range 15) rfl rfl rfl rfl (x_undef [(26,undefP),(30,undefP)] (.range 16) rfl rfl rfl rfl ?_)))))
 refine x_undef [(26,undefP),(3,PV.ptr 0 0)] (.range 12) rfl rfl rfl rfl (x_undef [(26,undefP),(32,undefP)] (.range 12 ++ [17]) rfl rfl rfl rfl (x_undef [(26,undefP),(31,undefP),(33,undefP)] (.range 19) rfl rfl rfl rfl (xn [(18,pB (decide (q.fn < 0))),(26,undefP),(34,undefP)] (.range 20) rfl rfl rfl rfl g1 (d_op (x_run0 [(18,pB (decide (q.fn < 0))),(35,undefP)] (.range 21) rfl rfl rfl rfl (s_pick_t rfl g1 rfl ⟨rfl,rfl,rfl⟩) ?_)))))
 refine d_op (x_run0 [(36,pB true)] (.range 22) rfl rfl rfl rfl (s_assign rfl ⟨rfl,rfl,rfl⟩) (d_end ⟨by kernel_rfl, ?_⟩))
 refine q_then (w_if rfl (fun _ => ?_) (fun e => absurd e (by decide)))
 refine w_seq (w_R (qo hnt rfl (s_build tab_53 rfl rfl (b_nil ?_))))
 refine qo hnt rfl (s_store_ptr tab_53 rfl rfl rfl rfl rfl (Nat.le_of_ble_eq_true rfl) ?_)
 refine qa hnt rfl rfl (r_set [(4,PV.ptr 1 0),(5,pI 12)] [(1,.obj [pI 0,pI 0,pI 0,pI 0,pI 0,pNil,pNil,p16 0,p16 0,pNil]),(0,.obj (cRequest q))] 2 ⟨rfl,rfl,trivial⟩ rfl rfl (r_end (q_then ?_)))
 have hz7 : 0 = R.1.fn ∧ 0 = R.1.code ∧ 0 = R.1.at_ ∧ 0 = R.1.count ∧ 0 = R.1.sub ∧ ([] : List Bool) = R.1.bits ∧ ([] : List UInt16) = R.1.vals ∧ 0 = R.1.and_ ∧ 0 = R.1.or_ ∧ ([] : List UInt8) = R.1.data := by and_intros <;> ((rw [hR,takeW_2 (e := b.getD 0 0) (by omega) rfl (by omega)]; rfl))
 refine w_leO (n := 1) (ds := cReply R.1) rfl ⟨le_of_eq (congrArg pI hz7.1),le_of_eq (congrArg pI hz7.2.1),le_of_eq (congrArg pI hz7.2.2.1),le_of_eq (congrArg pI hz7.2.2.2.1),le_of_eq (congrArg pI hz7.2.2.2.2.1),le_tr (le_nilS 1 false) (le_of_eq (congrArg (fun z => pS 1 false encBo z) hz7.2.2.2.2.2.1)),le_tr (le_nilS 1 false) (le_of_eq (congrArg (fun z => pS 1 false enc16 z) hz7.2.2.2.2.2.2.1)),le_of_eq (congrArg p16 hz7.2.2.2.2.2.2.2.1),le_of_eq (congrArg p16 hz7.2.2.2.2.2.2.2.2.1),le_tr (le_nilS 1 false) (le_of_eq (congrArg (fun z => pS 1 false enc8 z) hz7.2.2.2.2.2.2.2.2.2)),trivial⟩ (w_le (s := 5) (y := pI R.2) rfl (le_of_eq (congrArg pI (show 12 = R.2 by (rw [hR,takeW_2 (e := b.getD 0 0) (by omega) rfl (by omega)]; done)))) (w_ret (q_block_ret (q_then_ret ?_))))
 exact fin_plain (ret_cell tab_53 (by decide) rfl rfl (Nat.le_of_ble_eq_true rfl) rfl (ret_tmp rfl ret_nil)) rfl rfl ⟨rfl,rfl,rfl⟩
end Go.Proofs.Ytljkbpgcglomfaa
set_option linter.unusedVariables false
namespace Go.Proofs.Ytljkbpgcglomfaa
open Go Go.Proofs.Ytljkbpgcglomfaa.Pv
section
variable {b : List UInt8} {q : TRequest} {e : UInt8} (h0 : b.getD 0 0 = e)
include h0
theorem takeG_no (h : 128 ≤ ((e.toNat : Nat) : Int)) : takeG b q = ⟨((e.toNat % 2 ^ 7 : Nat) : Int),codeG b,0,0,0,[],[],0,0,[]⟩ := by unfold takeG; simp only [h0]; rw [if_pos h]
variable (h : ¬ 128 ≤ ((e.toNat : Nat) : Int))
include h
theorem takeG_1 (k : ((e.toNat : Nat) : Int) = 1 ∨ ((e.toNat : Nat) : Int) = 2) (hl : 1 < b.length) : takeG b q = ⟨((e.toNat : Nat) : Int),0,0,0,0,bopV (b.drop 2) q.count,[],0,0,[]⟩ := by unfold takeG; simp only [h0]; rw [if_neg h,if_pos k,if_pos hl]
theorem takeG_2 (k : ((e.toNat : Nat) : Int) = 1 ∨ ((e.toNat : Nat) : Int) = 2) (hl : ¬ 1 < b.length) : takeG b q = ⟨((e.toNat : Nat) : Int),0,0,0,0,[],[],0,0,[]⟩ := by unfold takeG; simp only [h0]; rw [if_neg h,if_pos k,if_neg hl]
theorem takeG_3 (k : ((e.toNat : Nat) : Int) = 3 ∨ ((e.toNat : Nat) : Int) = 4 ∨ ((e.toNat : Nat) : Int) = 23) : takeG b q = ⟨((e.toNat : Nat) : Int),0,0,0,0,[],wordsAt b 2,0,0,[]⟩ := by unfold takeG; simp only [h0]; rw [if_neg h,if_neg (by omega),if_pos k]
theorem takeG_15 (k : ((e.toNat : Nat) : Int) = 15 ∨ ((e.toNat : Nat) : Int) = 16) : takeG b q = ⟨((e.toNat : Nat) : Int),0,getV b 1,getV b 3,0,[],[],0,0,[]⟩ := by unfold takeG; simp only [h0]; rw [if_neg h,if_neg (by omega),if_neg (by omega),if_pos k]
theorem takeG_17 (k : ((e.toNat : Nat) : Int) = 17) (hl : 1 < b.length) : takeG b q = ⟨((e.toNat : Nat) : Int),0,0,0,0,[],[],0,0,b.drop 2⟩ := by unfold takeG; simp only [h0]; rw [if_neg h,if_neg (by omega),if_neg (by omega),if_neg (by omega),if_pos k,if_pos hl]
theorem takeG_18 (k : ((e.toNat : Nat) : Int) = 17) (hl : ¬ 1 < b.length) : takeG b q = ⟨((e.toNat : Nat) : Int),0,0,0,0,[],[],0,0,[]⟩ := by unfold takeG; simp only [h0]; rw [if_neg h,if_neg (by omega),if_neg (by omega),if_neg (by omega),if_pos k,if_neg hl]
theorem takeG_d (k : ¬ (((e.toNat : Nat) : Int) = 1 ∨ ((e.toNat : Nat) : Int) = 2 ∨ ((e.toNat : Nat) : Int) = 3 ∨ ((e.toNat : Nat) : Int) = 4 ∨ ((e.toNat : Nat) : Int) = 23 ∨ ((e.toNat : Nat) : Int) = 15 ∨ ((e.toNat : Nat) : Int) = 16 ∨ ((e.toNat : Nat) : Int) = 17)) {G : TRequest} (hG : G = guessR b) :
    takeG b q = ⟨((e.toNat : Nat) : Int),0,(if ((e.toNat : Nat) : Int) = 8 then 0 else getV b 1),0,G.sub,G.bits,G.vals,G.and_,G.or_,[]⟩ := by
  subst hG; unfold takeG; simp only [h0]; rw [if_neg h,if_neg (by omega),if_neg (by omega),if_neg (by omega),if_neg (by omega)]
end
theorem takeG_len {b : List UInt8} {q : TRequest} (hb : b.length ≤ 140737488351232) (hq : b.length ≤ 17592186043904 ∨ q.count ≤ 140737488351232) : (takeG b q).bits.length ≤ 140737488351232 ∧ (takeG b q).vals.length ≤ 140737488351232 ∧ (takeG b q).data.length ≤ 140737488351232 := by
  have h1 := bopV_len8 (b.drop 2) q.count
  have h2 := bopV_len (b.drop 2) q.count
  have h4 : (b.drop 2).length ≤ b.length := by rw [List.length_drop]; omega
  have h3 := (wordsAt_len b 2).1
  have h6 := guessR_len b
  have h5 : (bopV (b.drop 2) q.count).length ≤ 140737488351232 := by rcases hq with h|h <;> omega
  unfold takeG
  simp only
  repeat' split
  all_goals first|exact ⟨h5,Nat.zero_le _,Nat.zero_le _⟩|exact ⟨Nat.zero_le _,by simp only; omega,Nat.zero_le _⟩|exact ⟨Nat.zero_le _,Nat.zero_le _,by simp only; omega⟩|exact ⟨Nat.zero_le _,Nat.zero_le _,Nat.zero_le _⟩|exact ⟨by simp only; omega,by simp only; omega,Nat.zero_le _⟩|exact ⟨by simp,by simp,by simp⟩
set_option maxRecDepth 100000 in
theorem orN128 : ∀ n : Fin 256,n.val ||| 128 = if n.val < 128 then n.val + 128 else n.val := by decide
theorem orI128 {f : Int} (h : 0 ≤ f ∧ f ≤ 255) : bitI .or .i64 f 128 = if f < 128 then f + 128 else f := by
  obtain ⟨n,rfl⟩ : ∃ n : Nat,f = (n : Int) := ⟨f.toNat,by omega⟩
  have h2 := orN128 ⟨n,by omega⟩
  have hr : n ||| 128 < 2 ^ 63 := Nat.or_lt_two_pow (by omega) (by decide)
  have e := Pv.bits_nat .or (· ||| ·) (fun a b => by simp) (a := n) (b := 128) (by omega) (by decide) hr (.inr (.inl rfl))
  have e2 : bitI .or .i64 (n : Int) 128 = ((n ||| 128 : Nat) : Int) := e
  rw [e2,h2]
  by_cases hc : n < 128
  · rw [if_pos hc,if_pos (by omega)]; rfl
  · rw [if_neg hc,if_neg (by omega)]
def askC (e : UInt8) (f : Int) : Bool := (((!decide (((UInt8.toNat e : Nat) : Int) = f)) && (!decide (((UInt8.toNat e : Nat) : Int) = bitI .or .i64 f 128))) || decide (f < 0)) || decide (255 < f)
theorem askC_no {e : UInt8} {f : Int} (h : askC e f = true) : ¬ (0 ≤ f ∧ (((e.toNat : Nat) : Int) = f ∨ f < 128 ∧ ((e.toNat : Nat) : Int) = f + 128)) := by
  have he := e.toNat_lt
  unfold askC at h
  simp only [Bool.or_eq_true,Bool.and_eq_true,Bool.not_eq_true',decide_eq_false_iff_not,decide_eq_true_eq] at h
  by_cases hf : 0 ≤ f ∧ f ≤ 255
  · rw [orI128 hf] at h
    split at h <;> omega
  · omega
theorem askC_yes {e : UInt8} {f : Int} (h : askC e f = false) : 0 ≤ f ∧ (((e.toNat : Nat) : Int) = f ∨ f < 128 ∧ ((e.toNat : Nat) : Int) = f + 128) := by
  have he := e.toNat_lt
  unfold askC at h
  simp only [Bool.or_eq_false_iff,Bool.and_eq_false_iff,Bool.not_eq_false',decide_eq_false_iff_not,decide_eq_true_eq] at h
  obtain ⟨⟨h1,h2⟩,h3⟩ := h
  rw [orI128 (by omega)] at h1
  split at h1 <;> omega
theorem head_b {G : TReply} {b : List UInt8} {e : UInt8} (h0 : b.getD 0 0 = e) (hg : goodR G = 0) (h : layR G = b) : ((e.toNat : Nat) : Int) = if G.code ≠ 0 then G.fn + 128 else G.fn := by
  rw [← h0,← h]; exact head_lay hg
theorem good_ge {G : TReply} (hg : goodR G = 0) (h : G.code = 0) : 1 ≤ G.fn := by
  rcases goodR_zero hg with ⟨h0,_⟩|⟨_,hf,_⟩
  · exact absurd h h0
  · have := hasF_of hf; omega
end Go.Proofs.Ytljkbpgcglomfaa
set_option linter.unusedVariables false
set_option linter.unusedSimpArgs false
set_option maxRecDepth 10000
set_option maxHeartbeats 1000000
namespace Go.Proofs.Ytljkbpgcglomfaa
open Go Go.Proofs.Ytljkbpgcglomfaa.Pv
theorem w_burgageref3_Take (b : List UInt8) (cl_b : Bool) (q : TRequest) (R : TReply × Int) (hR : R = takeWith takeG b q) (hb : b.length ≤ 140737488351232) (hq : q.count ≤ 9223372036854775807 ∧ (b.length ≤ 17592186043904 ∨ q.count ≤ 140737488351232)) :
    T Try.prog 58 [pS 1 cl_b enc8 b,PV.f (eRequest q)] 0 [] (Ret (PV.tup [PV.f (eReply R.1),pI R.2]) 0 []) := by
 refine t_fun tabOk (n := 168) (rs := [.cell 4 53,.tmp 5]) Try.func58 rfl rfl rfl rfl (Nat.le_of_ble_eq_true rfl) ?_
 intro c hnt hk
 refine w_seq (w_R (qo hnt rfl (s_box rfl rfl ?_)))
 refine qo hnt rfl (s_alloc tab_53 ?_)
 refine qa hnt rfl rfl (r_set [(0,pS 1 cl_b enc8 b),(3,PV.ptr 0 0),(4,PV.ptr 1 0)] [(1,.obj [pI 0,pI 0,pI 0,pI 0,pI 0,pNil,pNil,p16 0,p16 0,pNil]),(0,.obj (cRequest q))] 2 ⟨rfl,rfl,rfl,trivial⟩ rfl rfl (r_end (q_then (w_seq (w_seq ?_)))))
 refine w_R (qm hnt rfl rfl (qo hnt rfl (s_lenM (l := b) tab_51 rfl (hM_sl (f := enc8) rfl) ?_)))
 refine qo hnt rfl (s_eql rfl rfl ?_)
 refine r_end (q_then (w_if rfl (fun c1 => ?_) (fun c1 => ?_)))
 ·have c1_ := c1
  try simp only [sB] at c1
  refine w_seq (w_R (qo hnt rfl (s_build tab_53 rfl rfl (b_nil ?_))))
  refine qo hnt rfl (s_store_ptr tab_53 rfl rfl rfl rfl rfl (Nat.le_of_ble_eq_true rfl) ?_)
  refine qa hnt rfl rfl (r_set [(4,PV.ptr 1 0),(5,pI 13)] [(1,.obj [pI 0,pI 0,pI 0,pI 0,pI 0,pNil,pNil,p16 0,p16 0,pNil]),(0,.obj (cRequest q))] 2 ⟨rfl,rfl,trivial⟩ rfl rfl (r_end (q_then ?_)))
  have hz1 : 0 = R.1.fn ∧ 0 = R.1.code ∧ 0 = R.1.at_ ∧ 0 = R.1.count ∧ 0 = R.1.sub ∧ ([] : List Bool) = R.1.bits ∧ ([] : List UInt16) = R.1.vals ∧ 0 = R.1.and_ ∧ 0 = R.1.or_ ∧ ([] : List UInt8) = R.1.data := by and_intros <;> ((rw [hR,takeW_1 (by omega)] <;> rfl))
  refine w_leO (n := 1) (ds := cReply R.1) rfl ⟨le_of_eq (congrArg pI hz1.1),le_of_eq (congrArg pI hz1.2.1),le_of_eq (congrArg pI hz1.2.2.1),le_of_eq (congrArg pI hz1.2.2.2.1),le_of_eq (congrArg pI hz1.2.2.2.2.1),le_tr (le_nilS 1 false) (le_of_eq (congrArg (fun z => pS 1 false encBo z) hz1.2.2.2.2.2.1)),le_tr (le_nilS 1 false) (le_of_eq (congrArg (fun z => pS 1 false enc16 z) hz1.2.2.2.2.2.2.1)),le_of_eq (congrArg p16 hz1.2.2.2.2.2.2.2.1),le_of_eq (congrArg p16 hz1.2.2.2.2.2.2.2.2.1),le_tr (le_nilS 1 false) (le_of_eq (congrArg (fun z => pS 1 false enc8 z) hz1.2.2.2.2.2.2.2.2.2)),trivial⟩ (w_le (s := 5) (y := pI R.2) rfl (le_of_eq (congrArg pI (show 13 = R.2 by (rw [hR,takeW_1 (by omega)] <;> rfl)))) (w_ret (q_then_ret ?_)))
  exact fin_plain (ret_cell tab_53 (by decide) rfl rfl (Nat.le_of_ble_eq_true rfl) rfl (ret_tmp rfl ret_nil)) rfl rfl ⟨rfl,rfl,rfl⟩
 have c1_ := c1
 try simp only [sB] at c1
 refine w_skip (q_then (w_seq (w_R (qm hnt rfl rfl ?_))))
 obtain ⟨e1,he1⟩ := get_of_lt b (i := 0) (by omega)
 refine qo hnt rfl (s_iaM (q := 0) (b := e1) (f := enc8) tab_51 rfl tab_5 rfl rfl (by omega) rfl he1 ?_)
 refine qo hnt rfl (s_load_ro1 tab_5 rfl rfl rfl rfl ?_)
 refine qo hnt rfl (s_cvN (a := UInt8.toNat e1) tab_5 tab_3 rfl rfl rfl (by omega) (by have := lt8 e1; omega) ?_)
 refine qa hnt rfl rfl (r_end (q_then (w_seq (w_seq ?_))))
 have hb0 : b.getD 0 0 = e1 := by rw [List.getD_eq_getElem?_getD,he1]; rfl
 have hel := e1.toNat_lt
 refine w_R (qm hnt rfl rfl (qo hnt rfl (s_fa_ptr tab_46 rfl rfl tab_3 (by decide) rfl ?_)))
 refine qo hnt rfl (s_load_ptr1 tab_3 rfl rfl rfl rfl rfl ?_)
 refine qo hnt rfl (s_neq rfl rfl ?_)
 refine qm hnt rfl rfl (r_cut0 6 [(0,pS 1 cl_b enc8 b),(3,PV.ptr 0 0),(4,PV.ptr 1 0),(6,pN (UInt8.toNat e1)),(28,pB ((!decide (((UInt8.toNat e1 : Nat) : Int) = q.fn)) && (!decide (((UInt8.toNat e1 : Nat) : Int) = bitI .or .i64 q.fn 128))))] ?_ ?_)
 ·refine r_if tabOk hnt rfl rfl rfl (fun g1 => ?_) (fun g1 => ?_)
  ·have g1' := g1
   try simp only [sB] at g1'
   refine qm hnt rfl rfl (ry hnt rfl rfl rfl g1 (qo hnt rfl (s_fa_ptr tab_46 rfl rfl tab_3 (by decide) rfl ?_)))
   refine ry hnt rfl rfl rfl g1 (qo hnt rfl (s_load_ptr1 tab_3 rfl rfl rfl rfl rfl ?_))
   refine ry hnt rfl rfl rfl g1 (qo hnt rfl (s_or rfl rfl ?_))
   refine ry hnt rfl rfl rfl g1 (qo hnt rfl (s_neq rfl rfl ?_))
   refine qo hnt rfl (s_pick_t rfl g1 rfl ?_)
   refine r_eq (s := 28) (y := pB ((!decide (((UInt8.toNat e1 : Nat) : Int) = q.fn)) && (!decide (((UInt8.toNat e1 : Nat) : Int) = bitI .or .i64 q.fn 128)))) rfl (mix_at g1) ?_
   exact r_mid ⟨⟨rfl,rfl,rfl,rfl,rfl,trivial⟩,rfl,rfl⟩
  ·have g1' := g1
   try simp only [sB] at g1'
   refine rn hnt rfl rfl rfl g1 (rn hnt rfl rfl rfl g1 (rn hnt rfl rfl rfl g1 (rn hnt rfl rfl rfl g1 (qo hnt rfl (s_pick_f rfl g1 rfl ?_)))))
   refine r_eq (s := 28) (y := pB ((!decide (((UInt8.toNat e1 : Nat) : Int) = q.fn)) && (!decide (((UInt8.toNat e1 : Nat) : Int) = bitI .or .i64 q.fn 128)))) rfl (mix_af _ g1) ?_
   exact r_mid ⟨⟨rfl,rfl,rfl,rfl,rfl,trivial⟩,rfl,rfl⟩
 ·refine qm hnt rfl rfl (r_cut0 4 [(0,pS 1 cl_b enc8 b),(3,PV.ptr 0 0),(4,PV.ptr 1 0),(6,pN (UInt8.toNat e1)),(33,pB (((!decide (((UInt8.toNat e1 : Nat) : Int) = q.fn)) && (!decide (((UInt8.toNat e1 : Nat) : Int) = bitI .or .i64 q.fn 128))) || (decide (q.fn < 0))))] ?_ ?_)
  ·refine r_if tabOk hnt rfl rfl rfl (fun g2 => ?_) (fun g2 => ?_)
   ·have g2' := g2
    try simp only [sB] at g2'
    refine qo hnt rfl (s_fa_ptr tab_46 rfl rfl tab_3 (by decide) rfl ?_)
    refine ry hnt rfl rfl rfl g2 (qo hnt rfl (s_load_ptr1 tab_3 rfl rfl rfl rfl rfl ?_))
    refine ry hnt rfl rfl rfl g2 (qo hnt rfl (s_lss rfl rfl ?_))
    refine qo hnt rfl (s_pick_f rfl g2 rfl ?_)
    refine r_eq (s := 33) (y := pB (((!decide (((UInt8.toNat e1 : Nat) : Int) = q.fn)) && (!decide (((UInt8.toNat e1 : Nat) : Int) = bitI .or .i64 q.fn 128))) || (decide (q.fn < 0)))) rfl (mix_of g2) ?_
    exact r_mid ⟨⟨rfl,rfl,rfl,rfl,rfl,trivial⟩,rfl,rfl⟩
   ·have g2' := g2
    try simp only [sB] at g2'
    refine rn hnt rfl rfl rfl g2 (rn hnt rfl rfl rfl g2 (qo hnt rfl (s_pick_t rfl g2 rfl ?_)))
    refine r_eq (s := 33) (y := pB (((!decide (((UInt8.toNat e1 : Nat) : Int) = q.fn)) && (!decide (((UInt8.toNat e1 : Nat) : Int) = bitI .or .i64 q.fn 128))) || (decide (q.fn < 0)))) rfl (mix_ot _ g2) ?_
    exact r_mid ⟨⟨rfl,rfl,rfl,rfl,rfl,trivial⟩,rfl,rfl⟩
  ·refine qm hnt rfl rfl (r_cut0 4 [(0,pS 1 cl_b enc8 b),(3,PV.ptr 0 0),(4,PV.ptr 1 0),(6,pN (UInt8.toNat e1)),(38,pB ((((!decide (((UInt8.toNat e1 : Nat) : Int) = q.fn)) && (!decide (((UInt8.toNat e1 : Nat) : Int) = bitI .or .i64 q.fn 128))) || (decide (q.fn < 0))) || (decide (255 < q.fn))))] ?_ ?_)
   ·refine r_if tabOk hnt rfl rfl rfl (fun g3 => ?_) (fun g3 => ?_)
    ·have g3' := g3
     try simp only [sB] at g3'
     refine qo hnt rfl (s_fa_ptr tab_46 rfl rfl tab_3 (by decide) rfl ?_)
     refine ry hnt rfl rfl rfl g3 (qo hnt rfl (s_load_ptr1 tab_3 rfl rfl rfl rfl rfl ?_))
     refine ry hnt rfl rfl rfl g3 (qo hnt rfl (s_gtr rfl rfl ?_))
     refine qo hnt rfl (s_pick_f rfl g3 rfl ?_)
     refine r_eq (s := 38) (y := pB ((((!decide (((UInt8.toNat e1 : Nat) : Int) = q.fn)) && (!decide (((UInt8.toNat e1 : Nat) : Int) = bitI .or .i64 q.fn 128))) || (decide (q.fn < 0))) || (decide (255 < q.fn)))) rfl (mix_of g3) ?_
     exact r_mid ⟨⟨rfl,rfl,rfl,rfl,rfl,trivial⟩,rfl,rfl⟩
    ·have g3' := g3
     try simp only [sB] at g3'
     refine rn hnt rfl rfl rfl g3 (rn hnt rfl rfl rfl g3 (qo hnt rfl (s_pick_t rfl g3 rfl ?_)))
     refine r_eq (s := 38) (y := pB ((((!decide (((UInt8.toNat e1 : Nat) : Int) = q.fn)) && (!decide (((UInt8.toNat e1 : Nat) : Int) = bitI .or .i64 q.fn 128))) || (decide (q.fn < 0))) || (decide (255 < q.fn)))) rfl (mix_ot _ g3) ?_
     exact r_mid ⟨⟨rfl,rfl,rfl,rfl,rfl,trivial⟩,rfl,rfl⟩
   ·refine r_end (q_then (w_if rfl (fun c2 => ?_) (fun c2 => ?_)))
    ·have c2_ := c2
     try simp only [sB] at c2
     refine w_seq (w_R (qo hnt rfl (s_build tab_53 rfl rfl (b_nil ?_))))
     refine qo hnt rfl (s_store_ptr tab_53 rfl rfl rfl rfl rfl (Nat.le_of_ble_eq_true rfl) ?_)
     refine qa hnt rfl rfl (r_set [(4,PV.ptr 1 0),(5,pI 12)] [(1,.obj [pI 0,pI 0,pI 0,pI 0,pI 0,pNil,pNil,p16 0,p16 0,pNil]),(0,.obj (cRequest q))] 2 ⟨rfl,rfl,trivial⟩ rfl rfl (r_end (q_then ?_)))
     have hz2 : 0 = R.1.fn ∧ 0 = R.1.code ∧ 0 = R.1.at_ ∧ 0 = R.1.count ∧ 0 = R.1.sub ∧ ([] : List Bool) = R.1.bits ∧ ([] : List UInt16) = R.1.vals ∧ 0 = R.1.and_ ∧ 0 = R.1.or_ ∧ ([] : List UInt8) = R.1.data := by and_intros <;> ((rw [hR,takeW_2 (by omega) hb0 (askC_no (by unfold askC; exact c2_))] <;> rfl))
     refine w_leO (n := 1) (ds := cReply R.1) rfl ⟨le_of_eq (congrArg pI hz2.1),le_of_eq (congrArg pI hz2.2.1),le_of_eq (congrArg pI hz2.2.2.1),le_of_eq (congrArg pI hz2.2.2.2.1),le_of_eq (congrArg pI hz2.2.2.2.2.1),le_tr (le_nilS 1 false) (le_of_eq (congrArg (fun z => pS 1 false encBo z) hz2.2.2.2.2.2.1)),le_tr (le_nilS 1 false) (le_of_eq (congrArg (fun z => pS 1 false enc16 z) hz2.2.2.2.2.2.2.1)),le_of_eq (congrArg p16 hz2.2.2.2.2.2.2.2.1),le_of_eq (congrArg p16 hz2.2.2.2.2.2.2.2.2.1),le_tr (le_nilS 1 false) (le_of_eq (congrArg (fun z => pS 1 false enc8 z) hz2.2.2.2.2.2.2.2.2.2)),trivial⟩ (w_le (s := 5) (y := pI R.2) rfl (le_of_eq (congrArg pI (show 12 = R.2 by (rw [hR,takeW_2 (by omega) hb0 (askC_no (by unfold askC; exact c2_))] <;> rfl)))) (w_ret (q_then_ret ?_)))
     exact fin_plain (ret_cell tab_53 (by decide) rfl rfl (Nat.le_of_ble_eq_true rfl) rfl (ret_tmp rfl ret_nil)) rfl rfl ⟨rfl,rfl,rfl⟩
    have c2_ := c2
    try simp only [sB] at c2
    refine w_skip (q_then (w_seq ?_))
    obtain ⟨G,hG⟩ : ∃ z,z = takeG b q := ⟨_,rfl⟩
    have hask := askC_yes (e := e1) (f := q.fn) (by unfold askC; exact c2_)
    refine w_R (qm hnt rfl rfl (qo hnt rfl (s_build tab_53 rfl rfl (b_cons rfl tab_3 rfl rfl rfl (Nat.le_of_ble_eq_true rfl) (b_nil ?_)))))
    refine qo hnt rfl (s_alloc tab_53 ?_)
    refine qo hnt rfl (s_store_ptr tab_53 rfl rfl rfl rfl rfl (Nat.le_of_ble_eq_true rfl) ?_)
    refine r_set [(0,pS 1 cl_b enc8 b),(3,PV.ptr 0 0),(4,PV.ptr 1 0),(6,pN (UInt8.toNat e1)),(7,PV.ptr 2 0)] [(2,.obj [pN (UInt8.toNat e1),pI 0,pI 0,pI 0,pI 0,pNil,pNil,p16 0,p16 0,pNil]),(1,.obj [pI 0,pI 0,pI 0,pI 0,pI 0,pNil,pNil,p16 0,p16 0,pNil]),(0,.obj (cRequest q))] 3 ⟨rfl,rfl,rfl,rfl,rfl,trivial⟩ rfl rfl (r_end (q_then (join0 (True) ([(0,pS 1 cl_b enc8 b),(3,PV.ptr 1 0),(4,PV.ptr 2 0),(6,pN (UInt8.toNat e1)),(7,PV.ptr 0 0)]) 3 ([(0,.obj (cReply G)),(1,.obj (cRequest q)),(2,.obj [pI 0,pI 0,pI 0,pI 0,pI 0,pNil,pNil,p16 0,p16 0,pNil])]) ?_ ?_)))
    ·refine w_seq (w_R (qm hnt rfl rfl (qo hnt rfl (s_geq rfl rfl ?_))))
     refine r_end (q_then (w_if rfl (fun c3 => ?_) (fun c3 => ?_)))
     ·have c3_ := c3
      try simp only [sB] at c3
      refine w_seq (w_R (qm hnt rfl rfl (qo hnt rfl (s_maskN (a := UInt8.toNat e1) 7 (by decide) rfl rfl (by omega) (by decide) ?_))))
      refine qo hnt rfl (s_fa_ptr tab_53 rfl rfl tab_3 (by decide) rfl ?_)
      refine qo hnt rfl (s_store_ptr tab_3 rfl rfl rfl rfl rfl (Nat.le_of_ble_eq_true rfl) ?_)
      refine r_set [(0,pS 1 cl_b enc8 b),(3,PV.ptr 0 0),(4,PV.ptr 1 0),(6,pN (UInt8.toNat e1)),(7,PV.ptr 2 0)] [(2,.obj [pN ((UInt8.toNat e1) % 2 ^ 7),pI 0,pI 0,pI 0,pI 0,pNil,pNil,p16 0,p16 0,pNil]),(1,.obj [pI 0,pI 0,pI 0,pI 0,pI 0,pNil,pNil,p16 0,p16 0,pNil]),(0,.obj (cRequest q))] 3 ⟨rfl,rfl,rfl,rfl,rfl,trivial⟩ rfl rfl (r_end (q_then (w_seq (w_R (qm hnt rfl rfl ?_)))))
      refine qo hnt rfl (s_lenM (l := b) tab_51 rfl (hM_sl (f := enc8) rfl) ?_)
      refine qo hnt rfl (s_gtr rfl rfl ?_)
      refine r_end (q_then (w_if rfl (fun c4 => ?_) (fun c4 => ?_)))
      ·have c4_ := c4
       try simp only [sB] at c4
       refine w_R (qm hnt rfl rfl ?_)
       obtain ⟨e2,he2⟩ := get_of_lt b (i := 1) (by omega)
       refine qo hnt rfl (s_iaM (q := 1) (b := e2) (f := enc8) tab_51 rfl tab_5 rfl rfl (by omega) rfl he2 ?_)
       refine qo hnt rfl (s_load_ro1 tab_5 rfl rfl rfl rfl ?_)
       refine qo hnt rfl (s_cvN (a := UInt8.toNat e2) tab_5 tab_3 rfl rfl rfl (by omega) (by have := lt8 e2; omega) ?_)
       refine qo hnt rfl (s_fa_ptr tab_53 rfl rfl tab_3 (by decide) rfl ?_)
       refine qo hnt rfl (s_store_ptr tab_3 rfl rfl rfl rfl rfl (Nat.le_of_ble_eq_true rfl) ?_)
       have hz3 : (((UInt8.toNat e1) % 2 ^ 7 : Nat) : Int) = G.fn ∧ ((UInt8.toNat e2 : Nat) : Int) = G.code ∧ 0 = G.at_ ∧ 0 = G.count ∧ 0 = G.sub ∧ ([] : List Bool) = G.bits ∧ ([] : List UInt16) = G.vals ∧ 0 = G.and_ ∧ 0 = G.or_ ∧ ([] : List UInt8) = G.data := by and_intros <;> (rw [hG,takeG_no hb0 (by omega),codeG_1 (by omega) he2])
       refine r_leO (n := 2) (ds := cReply G) rfl ⟨le_of_eq (congrArg pI hz3.1),le_of_eq (congrArg pI hz3.2.1),le_of_eq (congrArg pI hz3.2.2.1),le_of_eq (congrArg pI hz3.2.2.2.1),le_of_eq (congrArg pI hz3.2.2.2.2.1),le_tr (le_nilS 1 false) (le_of_eq (congrArg (fun z => pS 1 false encBo z) hz3.2.2.2.2.2.1)),le_tr (le_nilS 1 false) (le_of_eq (congrArg (fun z => pS 1 false enc16 z) hz3.2.2.2.2.2.2.1)),le_of_eq (congrArg p16 hz3.2.2.2.2.2.2.2.1),le_of_eq (congrArg p16 hz3.2.2.2.2.2.2.2.2.1),le_tr (le_nilS 1 false) (le_of_eq (congrArg (fun z => pS 1 false enc8 z) hz3.2.2.2.2.2.2.2.2.2)),trivial⟩ (r_end (q_then (⟨?_,⟨[(0,2),(1,0),(2,1)],by rw [hk]; decide,⟨⟨_,rfl,rfl,rfl⟩,⟨_,rfl,rfl,rfl⟩,⟨_,rfl,rfl,rfl⟩,⟨_,rfl,rfl,rfl⟩,⟨_,rfl,rfl,rfl⟩,trivial⟩,⟨⟨_,_,rfl,rfl,rfl,rfl⟩,⟨_,_,rfl,rfl,rfl,rfl⟩,⟨_,_,rfl,rfl,rfl,rfl⟩,trivial⟩,by rw [hk]; decide⟩⟩)))
       trivial
      have c4_ := c4
      try simp only [sB] at c4
      have hz4 : (((UInt8.toNat e1) % 2 ^ 7 : Nat) : Int) = G.fn ∧ 0 = G.code ∧ 0 = G.at_ ∧ 0 = G.count ∧ 0 = G.sub ∧ ([] : List Bool) = G.bits ∧ ([] : List UInt16) = G.vals ∧ 0 = G.and_ ∧ 0 = G.or_ ∧ ([] : List UInt8) = G.data := by and_intros <;> (rw [hG,takeG_no hb0 (by omega),codeG_0 (by omega)])
      refine w_leO (n := 2) (ds := cReply G) rfl ⟨le_of_eq (congrArg pI hz4.1),le_of_eq (congrArg pI hz4.2.1),le_of_eq (congrArg pI hz4.2.2.1),le_of_eq (congrArg pI hz4.2.2.2.1),le_of_eq (congrArg pI hz4.2.2.2.2.1),le_tr (le_nilS 1 false) (le_of_eq (congrArg (fun z => pS 1 false encBo z) hz4.2.2.2.2.2.1)),le_tr (le_nilS 1 false) (le_of_eq (congrArg (fun z => pS 1 false enc16 z) hz4.2.2.2.2.2.2.1)),le_of_eq (congrArg p16 hz4.2.2.2.2.2.2.2.1),le_of_eq (congrArg p16 hz4.2.2.2.2.2.2.2.2.1),le_tr (le_nilS 1 false) (le_of_eq (congrArg (fun z => pS 1 false enc8 z) hz4.2.2.2.2.2.2.2.2.2)),trivial⟩ (w_skip (q_then (⟨?_,⟨[(0,2),(1,0),(2,1)],by rw [hk]; decide,⟨⟨_,rfl,rfl,rfl⟩,⟨_,rfl,rfl,rfl⟩,⟨_,rfl,rfl,rfl⟩,⟨_,rfl,rfl,rfl⟩,⟨_,rfl,rfl,rfl⟩,trivial⟩,⟨⟨_,_,rfl,rfl,rfl,rfl⟩,⟨_,_,rfl,rfl,rfl,rfl⟩,⟨_,_,rfl,rfl,rfl,rfl⟩,trivial⟩,by rw [hk]; decide⟩⟩)))
      trivial
     have c3_ := c3
     try simp only [sB] at c3
     refine w_seq (w_R (qm hnt rfl rfl (qo hnt rfl (s_callF rfl rfl rfl (w_burgageref3_has ((UInt8.toNat e1 : Nat) : Int)) rfl ?_))))
     refine qa hnt rfl rfl (r_end (q_then (join1 (fun (va : Int) => va = (if inS (usesA ((e1.toNat : Nat) : Int)) 97 = true then getV b 1 else 0)) (fun (va : Int) => [(0,pS 1 cl_b enc8 b),(3,PV.ptr 1 0),(4,PV.ptr 2 0),(6,pN (UInt8.toNat e1)),(7,PV.ptr 0 0)]) 3 (fun (va : Int) => [(0,.obj [pN (UInt8.toNat e1),pI 0,pI va,pI 0,pI 0,pNil,pNil,p16 0,p16 0,pNil]),(1,.obj (cRequest q)),(2,.obj [pI 0,pI 0,pI 0,pI 0,pI 0,pNil,pNil,p16 0,p16 0,pNil])]) ?_ ?_)))
     ·refine w_seq (w_R (qm hnt rfl rfl (qo hnt rfl (s_callF rfl rfl rfl (w_burgageref3_in (usesA ((UInt8.toNat e1 : Nat) : Int)) 97 (by have := usesA_len ((UInt8.toNat e1 : Nat) : Int); omega)) rfl ?_))))
      refine r_end (q_then (w_if rfl (fun c5 => ?_) (fun c5 => ?_)))
      ·have c5_ := c5
       try simp only [sB] at c5
       refine w_R (qm hnt rfl rfl (qo hnt rfl (s_callF rfl rfl rfl (w_burgageref3_num b cl_b 1 (by omega) (by omega)) rfl ?_)))
       refine qo hnt rfl (s_fa_ptr tab_53 rfl rfl tab_3 (by decide) rfl ?_)
       refine qo hnt rfl (s_store_ptr tab_3 rfl rfl rfl rfl rfl (Nat.le_of_ble_eq_true rfl) ?_)
       refine r_end (q_then (⟨(getV b 1), ?_,⟨[(0,2),(1,0),(2,1)],by rw [hk]; decide,⟨⟨_,rfl,rfl,rfl⟩,⟨_,rfl,rfl,rfl⟩,⟨_,rfl,rfl,rfl⟩,⟨_,rfl,rfl,rfl⟩,⟨_,rfl,rfl,rfl⟩,trivial⟩,⟨⟨_,_,rfl,rfl,rfl,rfl⟩,⟨_,_,rfl,rfl,rfl,rfl⟩,⟨_,_,rfl,rfl,rfl,rfl⟩,trivial⟩,by rw [hk]; decide⟩⟩))
       rw [if_pos c5_]
      have c5_ := c5
      try simp only [sB] at c5
      refine w_skip (q_then (⟨(0), ?_,⟨[(0,2),(1,0),(2,1)],by rw [hk]; decide,⟨⟨_,rfl,rfl,rfl⟩,⟨_,rfl,rfl,rfl⟩,⟨_,rfl,rfl,rfl⟩,⟨_,rfl,rfl,rfl⟩,⟨_,rfl,rfl,rfl⟩,trivial⟩,⟨⟨_,_,rfl,rfl,rfl,rfl⟩,⟨_,_,rfl,rfl,rfl,rfl⟩,⟨_,_,rfl,rfl,rfl,rfl⟩,trivial⟩,by rw [hk]; decide⟩⟩))
      rw [if_neg (by simp [c5_])]
     intro va hva
     have ha97 := in_A97 ((e1.toNat : Nat) : Int)
     have hva0 : (((e1.toNat : Nat) : Int) = 1 ∨ ((e1.toNat : Nat) : Int) = 2 ∨ ((e1.toNat : Nat) : Int) = 3 ∨ ((e1.toNat : Nat) : Int) = 4 ∨ ((e1.toNat : Nat) : Int) = 23 ∨ ((e1.toNat : Nat) : Int) = 8 ∨ ((e1.toNat : Nat) : Int) = 17) → va = 0 := fun h => by rw [hva,ha97,if_neg (by simp; omega)]
     have hva1 : ¬ (((e1.toNat : Nat) : Int) = 1 ∨ ((e1.toNat : Nat) : Int) = 2 ∨ ((e1.toNat : Nat) : Int) = 3 ∨ ((e1.toNat : Nat) : Int) = 4 ∨ ((e1.toNat : Nat) : Int) = 23 ∨ ((e1.toNat : Nat) : Int) = 8 ∨ ((e1.toNat : Nat) : Int) = 17) → va = getV b 1 := fun h => by rw [hva,ha97,if_pos (by simp; omega)]
     have hva8 : ¬ (((e1.toNat : Nat) : Int) = 1 ∨ ((e1.toNat : Nat) : Int) = 2 ∨ ((e1.toNat : Nat) : Int) = 3 ∨ ((e1.toNat : Nat) : Int) = 4 ∨ ((e1.toNat : Nat) : Int) = 23 ∨ ((e1.toNat : Nat) : Int) = 17) → va = (if ((e1.toNat : Nat) : Int) = 8 then 0 else getV b 1) := fun h => by split; exact hva0 (by omega); exact hva1 (by omega)
     refine w_seq (w_R (qm hnt rfl rfl (r_end (q_then (w_block ?_)))))
     refine join1 (fun (bb1 : Bool) => bb1 = ((decide (((UInt8.toNat e1 : Nat) : Int) = 1)) || (decide (((UInt8.toNat e1 : Nat) : Int) = 2)))) (fun (bb1 : Bool) => [(0,pS 1 cl_b enc8 b),(3,PV.ptr 0 0),(4,PV.ptr 1 0),(6,pN (UInt8.toNat e1)),(7,PV.ptr 2 0),(62,pN (UInt8.toNat e1)),(80,pB bb1)]) 3 (fun (bb1 : Bool) => [(0,.obj (cRequest q)),(1,.obj [pI 0,pI 0,pI 0,pI 0,pI 0,pNil,pNil,p16 0,p16 0,pNil]),(2,.obj [pN (UInt8.toNat e1),pI 0,pI va,pI 0,pI 0,pNil,pNil,p16 0,p16 0,pNil])]) ?_ ?_
     ·refine w_seq (w_R (qo hnt rfl (s_eql rfl rfl ?_)))
      refine qa hnt rfl rfl (r_end (q_then (w_if rfl (fun c6 => ?_) (fun c6 => ?_))))
      ·have c6_ := c6
       try simp only [sB] at c6
       refine w_skip (q_then (⟨(decide (((UInt8.toNat e1 : Nat) : Int) = 1)), ?_,⟨[(0,1),(1,2),(2,0)],by rw [hk]; decide,⟨⟨_,rfl,rfl,rfl⟩,⟨_,rfl,rfl,rfl⟩,⟨_,rfl,rfl,rfl⟩,⟨_,rfl,rfl,rfl⟩,⟨_,rfl,rfl,rfl⟩,⟨_,rfl,rfl,rfl⟩,⟨_,rfl,rfl,rfl⟩,trivial⟩,⟨⟨_,_,rfl,rfl,rfl,rfl⟩,⟨_,_,rfl,rfl,rfl,rfl⟩,⟨_,_,rfl,rfl,rfl,rfl⟩,trivial⟩,by rw [hk]; decide⟩⟩))
       simp only [c6_,Bool.true_or,Bool.false_or]
      have c6_ := c6
      try simp only [sB] at c6
      refine w_R (qo hnt rfl (s_eql rfl rfl ?_))
      refine qa hnt rfl rfl (r_end (q_then (⟨(decide (((UInt8.toNat e1 : Nat) : Int) = 2)), ?_,⟨[(0,1),(1,2),(2,0)],by rw [hk]; decide,⟨⟨_,rfl,rfl,rfl⟩,⟨_,rfl,rfl,rfl⟩,⟨_,rfl,rfl,rfl⟩,⟨_,rfl,rfl,rfl⟩,⟨_,rfl,rfl,rfl⟩,⟨_,rfl,rfl,rfl⟩,⟨_,rfl,rfl,rfl⟩,trivial⟩,⟨⟨_,_,rfl,rfl,rfl,rfl⟩,⟨_,_,rfl,rfl,rfl,rfl⟩,⟨_,_,rfl,rfl,rfl,rfl⟩,trivial⟩,by rw [hk]; decide⟩⟩)))
      simp only [c6_,Bool.true_or,Bool.false_or]
     intro bb1 hbb1
     subst hbb1
     refine w_if rfl (fun c7 => ?_) (fun c7 => ?_)
     ·have c7_ := c7
      try simp only [sB,Bool.or_eq_true,Bool.or_eq_false_iff] at c7
      refine w_seq (w_R (qm hnt rfl rfl (qo hnt rfl (s_lenM (l := b) tab_51 rfl (hM_sl (f := enc8) rfl) ?_))))
      refine qo hnt rfl (s_gtr rfl rfl ?_)
      refine r_end (q_then (w_if rfl (fun c8 => ?_) (fun c8 => ?_)))
      ·have c8_ := c8
       try simp only [sB] at c8
       refine W_drawnR tabOk mixed hnt [[],[0],[],[2],[0,1,2,3],[0,1,2,3,4],[0,1,2,3,4,5],[0,1,2,3,4,5],[0,1,2,3,4,5,6],[0,1,2,3,4,5,6,8]] (by kernel_rfl) (d_op (x_run0 [(0,pS 1 cl_b enc8 b)] [] rfl rfl rfl rfl (s_move rfl ⟨rfl,rfl,rfl⟩) (d_op (x_run0 [(87,pS 1 cl_b enc8 b)] [0] rfl rfl rfl rfl (s_cutM_lo (a := 2) (f := enc8) (l := b) tab_51 rfl tab_5 ⟨rfl,by decide⟩ rfl (bound_some rfl (by omega)) (by omega) ⟨rfl,rfl,rfl⟩) (d_op ?_)))))
       refine x_run0 [(3,PV.ptr 0 0)] [] rfl rfl rfl rfl (s_fa_ptr tab_46 rfl rfl tab_3 (by decide) rfl ⟨rfl,rfl,rfl⟩) (d_op (xL [(89,PV.ptr 0 2)] [2] [(0,.obj (cRequest q))] rfl rfl rfl rfl rfl (s_load_ptr1 tab_3 rfl rfl rfl rfl rfl ⟨rfl,rfl,rfl⟩) ⟨rfl,trivial⟩ rfl (d_op (x_run0 [(88,pS 1 cl_b enc8 (b.drop 2)),(90,pI q.count)] [0,1,2,3] rfl rfl rfl rfl (s_callF rfl rfl rfl (w_burgageref1_Open_d (b.drop 2) cl_b q.count (by rw [List.length_drop]; omega) (by omega) (by rw [List.length_drop]; omega)) rfl ⟨rfl,rfl,rfl⟩) (d_op ?_)))))
       refine x_run0 [(91,PV.tup [pS 1 false encBo (bopV (b.drop 2) q.count),pB (bopOk (b.drop 2) q.count)])] [0,1,2,3,4] rfl rfl rfl rfl (s_move rfl ⟨rfl,rfl,rfl⟩) (d_op (x_run0 [(86,PV.tup [pS 1 false encBo (bopV (b.drop 2) q.count),pB (bopOk (b.drop 2) q.count)])] [0,1,2,3,4,5] rfl rfl rfl rfl (s_extract rfl rfl ⟨rfl,rfl,rfl⟩) (d_op (x_run0 [(86,PV.tup [pS 1 false encBo (bopV (b.drop 2) q.count),pB (bopOk (b.drop 2) q.count)])] [0,1,2,3,4,5] rfl rfl rfl rfl (s_extract rfl rfl ⟨rfl,rfl,rfl⟩) (d_op ?_)))))
       refine x_run0 [(7,PV.ptr 2 0)] [0,1,2,3,4,5,6] rfl rfl rfl rfl (s_fa_ptr tab_53 rfl rfl tab_42 (by decide) rfl ⟨rfl,rfl,rfl⟩) (d_op (xT [(94,PV.ptr 2 5),(92,pS 1 false encBo (bopV (b.drop 2) q.count))] [0,1,2,3,4,5,6,8] [(2,.obj [pN (UInt8.toNat e1),pI 0,pI va,pI 0,pI 0,pNil,pNil,p16 0,p16 0,pNil])] [(2,.obj [pN (UInt8.toNat e1),pI 0,pI va,pI 0,pI 0,pS 1 false encBo (bopV (b.drop 2) q.count),pNil,p16 0,p16 0,pNil])] [(0,.obj (cRequest q)),(1,.obj [pI 0,pI 0,pI 0,pI 0,pI 0,pNil,pNil,p16 0,p16 0,pNil])] rfl rfl rfl rfl rfl (s_store_ptr tab_42 rfl rfl rfl rfl rfl (Nat.le_of_ble_eq_true rfl) ⟨rfl,rfl,rfl⟩) rfl rfl (d_end ⟨by kernel_rfl, ?_⟩)))
       have hz5 : ((UInt8.toNat e1 : Nat) : Int) = G.fn ∧ 0 = G.code ∧ va = G.at_ ∧ 0 = G.count ∧ 0 = G.sub ∧ (bopV (b.drop 2) q.count) = G.bits ∧ ([] : List UInt16) = G.vals ∧ 0 = G.and_ ∧ 0 = G.or_ ∧ ([] : List UInt8) = G.data := by and_intros <;> ((rw [hG,takeG_1 hb0 (by omega) (by omega) (by omega)] <;> (first|rfl|exact hva0 (by omega)|exact hva1 (by omega)|exact hva8 (by omega))))
       refine r_leO (n := 2) (ds := cReply G) rfl ⟨le_of_eq (congrArg pI hz5.1),le_of_eq (congrArg pI hz5.2.1),le_of_eq (congrArg pI hz5.2.2.1),le_of_eq (congrArg pI hz5.2.2.2.1),le_of_eq (congrArg pI hz5.2.2.2.2.1),le_of_eq (congrArg (fun z => pS 1 false encBo z) hz5.2.2.2.2.2.1),le_tr (le_nilS 1 false) (le_of_eq (congrArg (fun z => pS 1 false enc16 z) hz5.2.2.2.2.2.2.1)),le_of_eq (congrArg p16 hz5.2.2.2.2.2.2.2.1),le_of_eq (congrArg p16 hz5.2.2.2.2.2.2.2.2.1),le_tr (le_nilS 1 false) (le_of_eq (congrArg (fun z => pS 1 false enc8 z) hz5.2.2.2.2.2.2.2.2.2)),trivial⟩ (r_end (q_block (q_then (⟨?_,⟨[(0,2),(1,0),(2,1)],by rw [hk]; decide,⟨⟨_,rfl,rfl,rfl⟩,⟨_,rfl,rfl,rfl⟩,⟨_,rfl,rfl,rfl⟩,⟨_,rfl,rfl,rfl⟩,⟨_,rfl,rfl,rfl⟩,trivial⟩,⟨⟨_,_,rfl,rfl,rfl,rfl⟩,⟨_,_,rfl,rfl,rfl,rfl⟩,⟨_,_,rfl,rfl,rfl,rfl⟩,trivial⟩,by rw [hk]; decide⟩⟩))))
       trivial
      have c8_ := c8
      try simp only [sB] at c8
      have hz6 : ((UInt8.toNat e1 : Nat) : Int) = G.fn ∧ 0 = G.code ∧ va = G.at_ ∧ 0 = G.count ∧ 0 = G.sub ∧ ([] : List Bool) = G.bits ∧ ([] : List UInt16) = G.vals ∧ 0 = G.and_ ∧ 0 = G.or_ ∧ ([] : List UInt8) = G.data := by and_intros <;> ((rw [hG,takeG_2 hb0 (by omega) (by omega) (by omega)] <;> (first|rfl|exact hva0 (by omega)|exact hva1 (by omega)|exact hva8 (by omega))))
      refine w_leO (n := 2) (ds := cReply G) rfl ⟨le_of_eq (congrArg pI hz6.1),le_of_eq (congrArg pI hz6.2.1),le_of_eq (congrArg pI hz6.2.2.1),le_of_eq (congrArg pI hz6.2.2.2.1),le_of_eq (congrArg pI hz6.2.2.2.2.1),le_tr (le_nilS 1 false) (le_of_eq (congrArg (fun z => pS 1 false encBo z) hz6.2.2.2.2.2.1)),le_tr (le_nilS 1 false) (le_of_eq (congrArg (fun z => pS 1 false enc16 z) hz6.2.2.2.2.2.2.1)),le_of_eq (congrArg p16 hz6.2.2.2.2.2.2.2.1),le_of_eq (congrArg p16 hz6.2.2.2.2.2.2.2.2.1),le_tr (le_nilS 1 false) (le_of_eq (congrArg (fun z => pS 1 false enc8 z) hz6.2.2.2.2.2.2.2.2.2)),trivial⟩ (w_skip (q_block (q_then (⟨?_,⟨[(0,2),(1,0),(2,1)],by rw [hk]; decide,⟨⟨_,rfl,rfl,rfl⟩,⟨_,rfl,rfl,rfl⟩,⟨_,rfl,rfl,rfl⟩,⟨_,rfl,rfl,rfl⟩,⟨_,rfl,rfl,rfl⟩,trivial⟩,⟨⟨_,_,rfl,rfl,rfl,rfl⟩,⟨_,_,rfl,rfl,rfl,rfl⟩,⟨_,_,rfl,rfl,rfl,rfl⟩,trivial⟩,by rw [hk]; decide⟩⟩))))
      trivial
     have c7_ := c7
     try simp only [sB,Bool.or_eq_true,Bool.or_eq_false_iff] at c7
     refine join1 (fun (bb2 : Bool) => bb2 = ((decide (((UInt8.toNat e1 : Nat) : Int) = 3)) || ((decide (((UInt8.toNat e1 : Nat) : Int) = 4)) || (decide (((UInt8.toNat e1 : Nat) : Int) = 23))))) (fun (bb2 : Bool) => [(0,pS 1 cl_b enc8 b),(3,PV.ptr 0 0),(4,PV.ptr 1 0),(6,pN (UInt8.toNat e1)),(7,PV.ptr 2 0),(62,pN (UInt8.toNat e1)),(95,pB bb2)]) 3 (fun (bb2 : Bool) => [(0,.obj (cRequest q)),(1,.obj [pI 0,pI 0,pI 0,pI 0,pI 0,pNil,pNil,p16 0,p16 0,pNil]),(2,.obj [pN (UInt8.toNat e1),pI 0,pI va,pI 0,pI 0,pNil,pNil,p16 0,p16 0,pNil])]) ?_ ?_
     ·refine w_seq (w_R (qo hnt rfl (s_eql rfl rfl ?_)))
      refine qa hnt rfl rfl (r_end (q_then (w_if rfl (fun c9 => ?_) (fun c9 => ?_))))
      ·have c9_ := c9
       try simp only [sB] at c9
       refine w_skip (q_then (⟨(decide (((UInt8.toNat e1 : Nat) : Int) = 3)), ?_,⟨[(0,0),(1,1),(2,2)],by rw [hk]; decide,⟨⟨_,rfl,rfl,rfl⟩,⟨_,rfl,rfl,rfl⟩,⟨_,rfl,rfl,rfl⟩,⟨_,rfl,rfl,rfl⟩,⟨_,rfl,rfl,rfl⟩,⟨_,rfl,rfl,rfl⟩,⟨_,rfl,rfl,rfl⟩,trivial⟩,⟨⟨_,_,rfl,rfl,rfl,rfl⟩,⟨_,_,rfl,rfl,rfl,rfl⟩,⟨_,_,rfl,rfl,rfl,rfl⟩,trivial⟩,by rw [hk]; decide⟩⟩))
       simp only [c9_,Bool.true_or,Bool.false_or]
      have c9_ := c9
      try simp only [sB] at c9
      refine w_seq (w_R (qo hnt rfl (s_eql rfl rfl ?_)))
      refine qa hnt rfl rfl (r_end (q_then (w_if rfl (fun c10 => ?_) (fun c10 => ?_))))
      ·have c10_ := c10
       try simp only [sB] at c10
       refine w_skip (q_then (⟨(decide (((UInt8.toNat e1 : Nat) : Int) = 4)), ?_,⟨[(0,0),(1,1),(2,2)],by rw [hk]; decide,⟨⟨_,rfl,rfl,rfl⟩,⟨_,rfl,rfl,rfl⟩,⟨_,rfl,rfl,rfl⟩,⟨_,rfl,rfl,rfl⟩,⟨_,rfl,rfl,rfl⟩,⟨_,rfl,rfl,rfl⟩,⟨_,rfl,rfl,rfl⟩,trivial⟩,⟨⟨_,_,rfl,rfl,rfl,rfl⟩,⟨_,_,rfl,rfl,rfl,rfl⟩,⟨_,_,rfl,rfl,rfl,rfl⟩,trivial⟩,by rw [hk]; decide⟩⟩))
       simp only [c9_,c10_,Bool.true_or,Bool.false_or]
      have c10_ := c10
      try simp only [sB] at c10
      refine w_R (qo hnt rfl (s_eql rfl rfl ?_))
      refine qa hnt rfl rfl (r_end (q_then (⟨(decide (((UInt8.toNat e1 : Nat) : Int) = 23)), ?_,⟨[(0,0),(1,1),(2,2)],by rw [hk]; decide,⟨⟨_,rfl,rfl,rfl⟩,⟨_,rfl,rfl,rfl⟩,⟨_,rfl,rfl,rfl⟩,⟨_,rfl,rfl,rfl⟩,⟨_,rfl,rfl,rfl⟩,⟨_,rfl,rfl,rfl⟩,⟨_,rfl,rfl,rfl⟩,trivial⟩,⟨⟨_,_,rfl,rfl,rfl,rfl⟩,⟨_,_,rfl,rfl,rfl,rfl⟩,⟨_,_,rfl,rfl,rfl,rfl⟩,trivial⟩,by rw [hk]; decide⟩⟩)))
      simp only [c9_,c10_,Bool.true_or,Bool.false_or]
     intro bb2 hbb2
     subst hbb2
     refine w_if rfl (fun c11 => ?_) (fun c11 => ?_)
     ·have c11_ := c11
      try simp only [sB,Bool.or_eq_true,Bool.or_eq_false_iff] at c11
      refine w_R (qm hnt rfl rfl (qo hnt rfl (s_callF rfl rfl rfl (w_burgageref3_words b cl_b 2 (by omega) (by omega)) rfl ?_)))
      refine qo hnt rfl (s_fa_ptr tab_53 rfl rfl tab_43 (by decide) rfl ?_)
      refine qo hnt rfl (s_store_ptr tab_43 rfl rfl rfl rfl rfl (Nat.le_of_ble_eq_true rfl) ?_)
      have hz7 : ((UInt8.toNat e1 : Nat) : Int) = G.fn ∧ 0 = G.code ∧ va = G.at_ ∧ 0 = G.count ∧ 0 = G.sub ∧ ([] : List Bool) = G.bits ∧ (wordsAt b 2) = G.vals ∧ 0 = G.and_ ∧ 0 = G.or_ ∧ ([] : List UInt8) = G.data := by and_intros <;> ((rw [hG,takeG_3 hb0 (by omega) (by omega)] <;> (first|rfl|exact hva0 (by omega)|exact hva1 (by omega)|exact hva8 (by omega))))
      refine r_leO (n := 2) (ds := cReply G) rfl ⟨le_of_eq (congrArg pI hz7.1),le_of_eq (congrArg pI hz7.2.1),le_of_eq (congrArg pI hz7.2.2.1),le_of_eq (congrArg pI hz7.2.2.2.1),le_of_eq (congrArg pI hz7.2.2.2.2.1),le_tr (le_nilS 1 false) (le_of_eq (congrArg (fun z => pS 1 false encBo z) hz7.2.2.2.2.2.1)),le_of_eq (congrArg (fun z => pS 1 false enc16 z) hz7.2.2.2.2.2.2.1),le_of_eq (congrArg p16 hz7.2.2.2.2.2.2.2.1),le_of_eq (congrArg p16 hz7.2.2.2.2.2.2.2.2.1),le_tr (le_nilS 1 false) (le_of_eq (congrArg (fun z => pS 1 false enc8 z) hz7.2.2.2.2.2.2.2.2.2)),trivial⟩ (r_end (q_block (q_then (⟨?_,⟨[(0,2),(1,0),(2,1)],by rw [hk]; decide,⟨⟨_,rfl,rfl,rfl⟩,⟨_,rfl,rfl,rfl⟩,⟨_,rfl,rfl,rfl⟩,⟨_,rfl,rfl,rfl⟩,⟨_,rfl,rfl,rfl⟩,trivial⟩,⟨⟨_,_,rfl,rfl,rfl,rfl⟩,⟨_,_,rfl,rfl,rfl,rfl⟩,⟨_,_,rfl,rfl,rfl,rfl⟩,trivial⟩,by rw [hk]; decide⟩⟩))))
      trivial
     have c11_ := c11
     try simp only [sB,Bool.or_eq_true,Bool.or_eq_false_iff] at c11
     refine join1 (fun (bb3 : Bool) => bb3 = ((decide (((UInt8.toNat e1 : Nat) : Int) = 15)) || (decide (((UInt8.toNat e1 : Nat) : Int) = 16)))) (fun (bb3 : Bool) => [(0,pS 1 cl_b enc8 b),(3,PV.ptr 0 0),(4,PV.ptr 1 0),(6,pN (UInt8.toNat e1)),(7,PV.ptr 2 0),(62,pN (UInt8.toNat e1)),(102,pB bb3)]) 3 (fun (bb3 : Bool) => [(0,.obj (cRequest q)),(1,.obj [pI 0,pI 0,pI 0,pI 0,pI 0,pNil,pNil,p16 0,p16 0,pNil]),(2,.obj [pN (UInt8.toNat e1),pI 0,pI va,pI 0,pI 0,pNil,pNil,p16 0,p16 0,pNil])]) ?_ ?_
     ·refine w_seq (w_R (qo hnt rfl (s_eql rfl rfl ?_)))
      refine qa hnt rfl rfl (r_end (q_then (w_if rfl (fun c12 => ?_) (fun c12 => ?_))))
      ·have c12_ := c12
       try simp only [sB] at c12
       refine w_skip (q_then (⟨(decide (((UInt8.toNat e1 : Nat) : Int) = 15)), ?_,⟨[(0,0),(1,1),(2,2)],by rw [hk]; decide,⟨⟨_,rfl,rfl,rfl⟩,⟨_,rfl,rfl,rfl⟩,⟨_,rfl,rfl,rfl⟩,⟨_,rfl,rfl,rfl⟩,⟨_,rfl,rfl,rfl⟩,⟨_,rfl,rfl,rfl⟩,⟨_,rfl,rfl,rfl⟩,trivial⟩,⟨⟨_,_,rfl,rfl,rfl,rfl⟩,⟨_,_,rfl,rfl,rfl,rfl⟩,⟨_,_,rfl,rfl,rfl,rfl⟩,trivial⟩,by rw [hk]; decide⟩⟩))
       simp only [c12_,Bool.true_or,Bool.false_or]
      have c12_ := c12
      try simp only [sB] at c12
      refine w_R (qo hnt rfl (s_eql rfl rfl ?_))
      refine qa hnt rfl rfl (r_end (q_then (⟨(decide (((UInt8.toNat e1 : Nat) : Int) = 16)), ?_,⟨[(0,0),(1,1),(2,2)],by rw [hk]; decide,⟨⟨_,rfl,rfl,rfl⟩,⟨_,rfl,rfl,rfl⟩,⟨_,rfl,rfl,rfl⟩,⟨_,rfl,rfl,rfl⟩,⟨_,rfl,rfl,rfl⟩,⟨_,rfl,rfl,rfl⟩,⟨_,rfl,rfl,rfl⟩,trivial⟩,⟨⟨_,_,rfl,rfl,rfl,rfl⟩,⟨_,_,rfl,rfl,rfl,rfl⟩,⟨_,_,rfl,rfl,rfl,rfl⟩,trivial⟩,by rw [hk]; decide⟩⟩)))
      simp only [c12_,Bool.true_or,Bool.false_or]
     intro bb3 hbb3
     subst hbb3
     refine w_if rfl (fun c13 => ?_) (fun c13 => ?_)
     ·have c13_ := c13
      try simp only [sB,Bool.or_eq_true,Bool.or_eq_false_iff] at c13
      refine w_R (qm hnt rfl rfl (qo hnt rfl (s_callF rfl rfl rfl (w_burgageref3_num b cl_b 3 (by omega) (by omega)) rfl ?_)))
      refine qo hnt rfl (s_fa_ptr tab_53 rfl rfl tab_3 (by decide) rfl ?_)
      refine qo hnt rfl (s_store_ptr tab_3 rfl rfl rfl rfl rfl (Nat.le_of_ble_eq_true rfl) ?_)
      have hz8 : ((UInt8.toNat e1 : Nat) : Int) = G.fn ∧ 0 = G.code ∧ va = G.at_ ∧ (getV b 3) = G.count ∧ 0 = G.sub ∧ ([] : List Bool) = G.bits ∧ ([] : List UInt16) = G.vals ∧ 0 = G.and_ ∧ 0 = G.or_ ∧ ([] : List UInt8) = G.data := by and_intros <;> ((rw [hG,takeG_15 hb0 (by omega) (by omega)] <;> (first|rfl|exact hva0 (by omega)|exact hva1 (by omega)|exact hva8 (by omega))))
      refine r_leO (n := 2) (ds := cReply G) rfl ⟨le_of_eq (congrArg pI hz8.1),le_of_eq (congrArg pI hz8.2.1),le_of_eq (congrArg pI hz8.2.2.1),le_of_eq (congrArg pI hz8.2.2.2.1),le_of_eq (congrArg pI hz8.2.2.2.2.1),le_tr (le_nilS 1 false) (le_of_eq (congrArg (fun z => pS 1 false encBo z) hz8.2.2.2.2.2.1)),le_tr (le_nilS 1 false) (le_of_eq (congrArg (fun z => pS 1 false enc16 z) hz8.2.2.2.2.2.2.1)),le_of_eq (congrArg p16 hz8.2.2.2.2.2.2.2.1),le_of_eq (congrArg p16 hz8.2.2.2.2.2.2.2.2.1),le_tr (le_nilS 1 false) (le_of_eq (congrArg (fun z => pS 1 false enc8 z) hz8.2.2.2.2.2.2.2.2.2)),trivial⟩ (r_end (q_block (q_then (⟨?_,⟨[(0,2),(1,0),(2,1)],by rw [hk]; decide,⟨⟨_,rfl,rfl,rfl⟩,⟨_,rfl,rfl,rfl⟩,⟨_,rfl,rfl,rfl⟩,⟨_,rfl,rfl,rfl⟩,⟨_,rfl,rfl,rfl⟩,trivial⟩,⟨⟨_,_,rfl,rfl,rfl,rfl⟩,⟨_,_,rfl,rfl,rfl,rfl⟩,⟨_,_,rfl,rfl,rfl,rfl⟩,trivial⟩,by rw [hk]; decide⟩⟩))))
      trivial
     have c13_ := c13
     try simp only [sB,Bool.or_eq_true,Bool.or_eq_false_iff] at c13
     refine w_seq (w_R (qo hnt rfl (s_eql rfl rfl ?_)))
     refine qa hnt rfl rfl (r_end (q_then (w_if rfl (fun c14 => ?_) (fun c14 => ?_))))
     ·have c14_ := c14
      try simp only [sB] at c14
      refine w_seq (w_R (qm hnt rfl rfl (qo hnt rfl (s_lenM (l := b) tab_51 rfl (hM_sl (f := enc8) rfl) ?_))))
      refine qo hnt rfl (s_gtr rfl rfl ?_)
      refine r_end (q_then (w_if rfl (fun c15 => ?_) (fun c15 => ?_)))
      ·have c15_ := c15
       try simp only [sB] at c15
       refine w_R (qo hnt rfl (s_mkM (f := enc8) ([] : List UInt8) tab_51 rfl tab_5 ⟨rfl,by decide⟩ (by decide) rfl rfl rfl rfl ?_))
       refine qm hnt rfl rfl (qo hnt rfl (s_cutM_lo (a := 2) (f := enc8) (l := b) tab_51 rfl tab_5 ⟨rfl,by decide⟩ rfl (bound_some rfl (by omega)) (by omega) ?_))
       refine qo hnt rfl (s_appR0 (f := enc8) (l := ([] : List UInt8)) (xs := b.drop 2) tab_51 rfl tab_5 ⟨rfl,by decide,by decide⟩ (srcM tab_51 rfl (hM_sl (f := enc8) rfl)) rfl rfl (by (simp; omega)) ?_)
       refine qo hnt rfl (s_fa_ptr tab_53 rfl rfl tab_51 (by decide) rfl ?_)
       refine qo hnt rfl (s_store_ptr tab_51 rfl rfl rfl rfl rfl (Nat.le_of_ble_eq_true rfl) ?_)
       refine r_frzC (n := 2) (j := 9) rfl rfl rfl rfl ?_
       have hz9 : (b.drop 2) = G.data := by ((rw [hG,takeG_17 hb0 (by omega) (by omega) (by omega)] <;> (first|rfl|exact hva0 (by omega)|exact hva1 (by omega)|exact hva8 (by omega))))
       refine r_leO (n := 2) (ds := [pN (UInt8.toNat e1),pI 0,pI va,pI 0,pI 0,pNil,pNil,p16 0,p16 0,pS 1 false enc8 G.data]) rfl ⟨le_refl _,le_refl _,le_refl _,le_refl _,le_refl _,le_refl _,le_refl _,le_refl _,le_refl _,le_of_eq (congrArg (fun z => pS 1 false enc8 z) hz9),trivial⟩ ?_
       have hz10 : ((UInt8.toNat e1 : Nat) : Int) = G.fn ∧ 0 = G.code ∧ va = G.at_ ∧ 0 = G.count ∧ 0 = G.sub ∧ ([] : List Bool) = G.bits ∧ ([] : List UInt16) = G.vals ∧ 0 = G.and_ ∧ 0 = G.or_ := by and_intros <;> ((rw [hG,takeG_17 hb0 (by omega) (by omega) (by omega)] <;> (first|rfl|exact hva0 (by omega)|exact hva1 (by omega)|exact hva8 (by omega))))
       refine r_leO (n := 2) (ds := cReply G) rfl ⟨le_of_eq (congrArg pI hz10.1),le_of_eq (congrArg pI hz10.2.1),le_of_eq (congrArg pI hz10.2.2.1),le_of_eq (congrArg pI hz10.2.2.2.1),le_of_eq (congrArg pI hz10.2.2.2.2.1),le_tr (le_nilS 1 false) (le_of_eq (congrArg (fun z => pS 1 false encBo z) hz10.2.2.2.2.2.1)),le_tr (le_nilS 1 false) (le_of_eq (congrArg (fun z => pS 1 false enc16 z) hz10.2.2.2.2.2.2.1)),le_of_eq (congrArg p16 hz10.2.2.2.2.2.2.2.1),le_of_eq (congrArg p16 hz10.2.2.2.2.2.2.2.2),le_refl _,trivial⟩ (r_end (q_block (q_then (⟨?_,⟨[(0,2),(1,0),(2,1)],by rw [hk]; decide,⟨⟨_,rfl,rfl,rfl⟩,⟨_,rfl,rfl,rfl⟩,⟨_,rfl,rfl,rfl⟩,⟨_,rfl,rfl,rfl⟩,⟨_,rfl,rfl,rfl⟩,trivial⟩,⟨⟨_,_,rfl,rfl,rfl,rfl⟩,⟨_,_,rfl,rfl,rfl,rfl⟩,⟨_,_,rfl,rfl,rfl,rfl⟩,trivial⟩,by rw [hk]; decide⟩⟩))))
       trivial
      have c15_ := c15
      try simp only [sB] at c15
      have hz11 : ((UInt8.toNat e1 : Nat) : Int) = G.fn ∧ 0 = G.code ∧ va = G.at_ ∧ 0 = G.count ∧ 0 = G.sub ∧ ([] : List Bool) = G.bits ∧ ([] : List UInt16) = G.vals ∧ 0 = G.and_ ∧ 0 = G.or_ ∧ ([] : List UInt8) = G.data := by and_intros <;> ((rw [hG,takeG_18 hb0 (by omega) (by omega) (by omega)] <;> (first|rfl|exact hva0 (by omega)|exact hva1 (by omega)|exact hva8 (by omega))))
      refine w_leO (n := 2) (ds := cReply G) rfl ⟨le_of_eq (congrArg pI hz11.1),le_of_eq (congrArg pI hz11.2.1),le_of_eq (congrArg pI hz11.2.2.1),le_of_eq (congrArg pI hz11.2.2.2.1),le_of_eq (congrArg pI hz11.2.2.2.2.1),le_tr (le_nilS 1 false) (le_of_eq (congrArg (fun z => pS 1 false encBo z) hz11.2.2.2.2.2.1)),le_tr (le_nilS 1 false) (le_of_eq (congrArg (fun z => pS 1 false enc16 z) hz11.2.2.2.2.2.2.1)),le_of_eq (congrArg p16 hz11.2.2.2.2.2.2.2.1),le_of_eq (congrArg p16 hz11.2.2.2.2.2.2.2.2.1),le_tr (le_nilS 1 false) (le_of_eq (congrArg (fun z => pS 1 false enc8 z) hz11.2.2.2.2.2.2.2.2.2)),trivial⟩ (w_skip (q_block (q_then (⟨?_,⟨[(0,2),(1,0),(2,1)],by rw [hk]; decide,⟨⟨_,rfl,rfl,rfl⟩,⟨_,rfl,rfl,rfl⟩,⟨_,rfl,rfl,rfl⟩,⟨_,rfl,rfl,rfl⟩,⟨_,rfl,rfl,rfl⟩,trivial⟩,⟨⟨_,_,rfl,rfl,rfl,rfl⟩,⟨_,_,rfl,rfl,rfl,rfl⟩,⟨_,_,rfl,rfl,rfl,rfl⟩,trivial⟩,by rw [hk]; decide⟩⟩))))
      trivial
     have c14_ := c14
     try simp only [sB] at c14
     refine w_seq (w_R (qm hnt rfl rfl ?_))
     obtain ⟨G1,hG1⟩ : ∃ z : TRequest,z = guessR b := ⟨_,rfl⟩
     refine qo hnt rfl (s_callF rfl rfl rfl (w_burgageref3_guess b cl_b G1 hG1 (by omega) (by omega)) rfl ?_)
     refine qo hnt rfl (s_alloc tab_46 ?_)
     refine qo hnt rfl (s_store_ptr tab_46 rfl rfl rfl rfl rfl (Nat.le_of_ble_eq_true rfl) ?_)
     refine r_set [(0,pS 1 cl_b enc8 b),(3,PV.ptr 0 0),(4,PV.ptr 1 0),(6,pN (UInt8.toNat e1)),(7,PV.ptr 2 0),(9,PV.ptr 3 0)] [(3,.obj (cRequest G1)),(0,.obj (cRequest q)),(1,.obj [pI 0,pI 0,pI 0,pI 0,pI 0,pNil,pNil,p16 0,p16 0,pNil]),(2,.obj [pN (UInt8.toNat e1),pI 0,pI va,pI 0,pI 0,pNil,pNil,p16 0,p16 0,pNil])] 4 ⟨rfl,rfl,rfl,rfl,rfl,rfl,trivial⟩ rfl rfl (r_end (q_then (W_drawnR tabOk mixed hnt [[],[0],[],[2],[],[4],[],[6],[],[8],[0,1],[0,1,10],[0,1,2,3,10,11],[0,1,2,3,10,11,12],[0,1,2,3,4,5,10,11,12,13],[0,1,2,3,4,5,10,11,12,13,14],(.range 8 ++ [10,11,12,13,14,15]),(.range 8 ++ [10,11,12,13,14,15,16]),(.range 18),(.range 19)] (by kernel_rfl) (d_op (x_run0 [(9,PV.ptr 3 0)] [] rfl rfl rfl rfl (s_fa_ptr tab_46 rfl rfl tab_3 (by decide) rfl ⟨rfl,rfl,rfl⟩) ?_)))))
     refine d_op (xL [(65,PV.ptr 3 4)] [0] [(3,.obj (cRequest G1))] rfl rfl rfl rfl rfl (s_load_ptr1 tab_3 rfl rfl rfl rfl rfl ⟨rfl,rfl,rfl⟩) ⟨rfl,trivial⟩ rfl (d_op (x_run0 [(9,PV.ptr 3 0)] [] rfl rfl rfl rfl (s_fa_ptr tab_46 rfl rfl tab_42 (by decide) rfl ⟨rfl,rfl,rfl⟩) (d_op (xL [(67,PV.ptr 3 5)] [2] [(3,.obj (cRequest G1))] rfl rfl rfl rfl rfl (s_load_ptr1 tab_42 rfl rfl rfl rfl rfl ⟨rfl,rfl,rfl⟩) ⟨rfl,trivial⟩ rfl ?_)))))
     refine d_op (x_run0 [(9,PV.ptr 3 0)] [] rfl rfl rfl rfl (s_fa_ptr tab_46 rfl rfl tab_43 (by decide) rfl ⟨rfl,rfl,rfl⟩) (d_op (xL [(69,PV.ptr 3 6)] [4] [(3,.obj (cRequest G1))] rfl rfl rfl rfl rfl (s_load_ptr1 tab_43 rfl rfl rfl rfl rfl ⟨rfl,rfl,rfl⟩) ⟨rfl,trivial⟩ rfl (d_op (x_run0 [(9,PV.ptr 3 0)] [] rfl rfl rfl rfl (s_fa_ptr tab_46 rfl rfl tab_44 (by decide) rfl ⟨rfl,rfl,rfl⟩) ?_)))))
     refine d_op (xL [(71,PV.ptr 3 7)] [6] [(3,.obj (cRequest G1))] rfl rfl rfl rfl rfl (s_load_ptr1 tab_44 rfl rfl rfl rfl rfl ⟨rfl,rfl,rfl⟩) ⟨rfl,trivial⟩ rfl (d_op (x_run0 [(9,PV.ptr 3 0)] [] rfl rfl rfl rfl (s_fa_ptr tab_46 rfl rfl tab_44 (by decide) rfl ⟨rfl,rfl,rfl⟩) (d_op (xL [(73,PV.ptr 3 8)] [8] [(3,.obj (cRequest G1))] rfl rfl rfl rfl rfl (s_load_ptr1 tab_44 rfl rfl rfl rfl rfl ⟨rfl,rfl,rfl⟩) ⟨rfl,trivial⟩ rfl ?_)))))
     refine d_op (x_run0 [(7,PV.ptr 2 0)] [0,1] rfl rfl rfl rfl (s_fa_ptr tab_53 rfl rfl tab_3 (by decide) rfl ⟨rfl,rfl,rfl⟩) (d_op (xT [(75,PV.ptr 2 4),(66,pI G1.sub)] [0,1,10] [(2,.obj [pN (UInt8.toNat e1),pI 0,pI va,pI 0,pI 0,pNil,pNil,p16 0,p16 0,pNil])] [(2,.obj [pN (UInt8.toNat e1),pI 0,pI va,pI 0,pI G1.sub,pNil,pNil,p16 0,p16 0,pNil])] [(3,.obj (cRequest G1)),(0,.obj (cRequest q)),(1,.obj [pI 0,pI 0,pI 0,pI 0,pI 0,pNil,pNil,p16 0,p16 0,pNil])] rfl rfl rfl rfl rfl (s_store_ptr tab_3 rfl rfl rfl rfl rfl (Nat.le_of_ble_eq_true rfl) ⟨rfl,rfl,rfl⟩) rfl rfl (d_op (x_run0 [(7,PV.ptr 2 0)] [0,1,2,3,10,11] rfl rfl rfl rfl (s_fa_ptr tab_53 rfl rfl tab_42 (by decide) rfl ⟨rfl,rfl,rfl⟩) ?_)))))
     refine d_op (xT [(76,PV.ptr 2 5),(68,pS 1 false encBo G1.bits)] [0,1,2,3,10,11,12] [(2,.obj [pN (UInt8.toNat e1),pI 0,pI va,pI 0,pI G1.sub,pNil,pNil,p16 0,p16 0,pNil])] [(2,.obj [pN (UInt8.toNat e1),pI 0,pI va,pI 0,pI G1.sub,pS 1 false encBo G1.bits,pNil,p16 0,p16 0,pNil])] [(3,.obj (cRequest G1)),(0,.obj (cRequest q)),(1,.obj [pI 0,pI 0,pI 0,pI 0,pI 0,pNil,pNil,p16 0,p16 0,pNil])] rfl rfl rfl rfl rfl (s_store_ptr tab_42 rfl rfl rfl rfl rfl (Nat.le_of_ble_eq_true rfl) ⟨rfl,rfl,rfl⟩) rfl rfl (d_op (x_run0 [(7,PV.ptr 2 0)] [0,1,2,3,4,5,10,11,12,13] rfl rfl rfl rfl (s_fa_ptr tab_53 rfl rfl tab_43 (by decide) rfl ⟨rfl,rfl,rfl⟩) (d_op (xT [(77,PV.ptr 2 6),(70,pS 1 false enc16 G1.vals)] [0,1,2,3,4,5,10,11,12,13,14] [(2,.obj [pN (UInt8.toNat e1),pI 0,pI va,pI 0,pI G1.sub,pS 1 false encBo G1.bits,pNil,p16 0,p16 0,pNil])] [(2,.obj [pN (UInt8.toNat e1),pI 0,pI va,pI 0,pI G1.sub,pS 1 false encBo G1.bits,pS 1 false enc16 G1.vals,p16 0,p16 0,pNil])] [(3,.obj (cRequest G1)),(0,.obj (cRequest q)),(1,.obj [pI 0,pI 0,pI 0,pI 0,pI 0,pNil,pNil,p16 0,p16 0,pNil])] rfl rfl rfl rfl rfl (s_store_ptr tab_43 rfl rfl rfl rfl rfl (Nat.le_of_ble_eq_true rfl) ⟨rfl,rfl,rfl⟩) rfl rfl ?_)))))
     refine d_op (x_run0 [(7,PV.ptr 2 0)] (.range 8 ++ [10,11,12,13,14,15]) rfl rfl rfl rfl (s_fa_ptr tab_53 rfl rfl tab_44 (by decide) rfl ⟨rfl,rfl,rfl⟩) (d_op (xT [(78,PV.ptr 2 7),(72,p16 G1.and_)] (.range 8 ++ [10,11,12,13,14,15,16]) [(2,.obj [pN (UInt8.toNat e1),pI 0,pI va,pI 0,pI G1.sub,pS 1 false encBo G1.bits,pS 1 false enc16 G1.vals,p16 0,p16 0,pNil])] [(2,.obj [pN (UInt8.toNat e1),pI 0,pI va,pI 0,pI G1.sub,pS 1 false encBo G1.bits,pS 1 false enc16 G1.vals,p16 G1.and_,p16 0,pNil])] [(3,.obj (cRequest G1)),(0,.obj (cRequest q)),(1,.obj [pI 0,pI 0,pI 0,pI 0,pI 0,pNil,pNil,p16 0,p16 0,pNil])] rfl rfl rfl rfl rfl (s_store_ptr tab_44 rfl rfl rfl rfl rfl (Nat.le_of_ble_eq_true rfl) ⟨rfl,rfl,rfl⟩) rfl rfl (d_op (x_run0 [(7,PV.ptr 2 0)] (.range 18) rfl rfl rfl rfl (s_fa_ptr tab_53 rfl rfl tab_44 (by decide) rfl ⟨rfl,rfl,rfl⟩) ?_)))))
     refine d_op (xT [(79,PV.ptr 2 8),(74,p16 G1.or_)] (.range 19) [(2,.obj [pN (UInt8.toNat e1),pI 0,pI va,pI 0,pI G1.sub,pS 1 false encBo G1.bits,pS 1 false enc16 G1.vals,p16 G1.and_,p16 0,pNil])] [(2,.obj [pN (UInt8.toNat e1),pI 0,pI va,pI 0,pI G1.sub,pS 1 false encBo G1.bits,pS 1 false enc16 G1.vals,p16 G1.and_,p16 G1.or_,pNil])] [(3,.obj (cRequest G1)),(0,.obj (cRequest q)),(1,.obj [pI 0,pI 0,pI 0,pI 0,pI 0,pNil,pNil,p16 0,p16 0,pNil])] rfl rfl rfl rfl rfl (s_store_ptr tab_44 rfl rfl rfl rfl rfl (Nat.le_of_ble_eq_true rfl) ⟨rfl,rfl,rfl⟩) rfl rfl (d_end ⟨by kernel_rfl, ?_⟩))
     have hz12 : ((UInt8.toNat e1 : Nat) : Int) = G.fn ∧ 0 = G.code ∧ va = G.at_ ∧ 0 = G.count ∧ G1.sub = G.sub ∧ G1.bits = G.bits ∧ G1.vals = G.vals ∧ G1.and_ = G.and_ ∧ G1.or_ = G.or_ ∧ ([] : List UInt8) = G.data := by and_intros <;> ((rw [hG,takeG_d hb0 (by omega) (by omega) hG1] <;> (first|rfl|exact hva0 (by omega)|exact hva1 (by omega)|exact hva8 (by omega))))
     refine r_leO (n := 2) (ds := cReply G) rfl ⟨le_of_eq (congrArg pI hz12.1),le_of_eq (congrArg pI hz12.2.1),le_of_eq (congrArg pI hz12.2.2.1),le_of_eq (congrArg pI hz12.2.2.2.1),le_of_eq (congrArg pI hz12.2.2.2.2.1),le_of_eq (congrArg (fun z => pS 1 false encBo z) hz12.2.2.2.2.2.1),le_of_eq (congrArg (fun z => pS 1 false enc16 z) hz12.2.2.2.2.2.2.1),le_of_eq (congrArg p16 hz12.2.2.2.2.2.2.2.1),le_of_eq (congrArg p16 hz12.2.2.2.2.2.2.2.2.1),le_tr (le_nilS 1 false) (le_of_eq (congrArg (fun z => pS 1 false enc8 z) hz12.2.2.2.2.2.2.2.2.2)),trivial⟩ (r_end (q_block (q_then (⟨?_,⟨[(0,2),(1,0),(2,1)],by rw [hk]; decide,⟨⟨_,rfl,rfl,rfl⟩,⟨_,rfl,rfl,rfl⟩,⟨_,rfl,rfl,rfl⟩,⟨_,rfl,rfl,rfl⟩,⟨_,rfl,rfl,rfl⟩,trivial⟩,⟨⟨_,_,rfl,rfl,rfl,rfl⟩,⟨_,_,rfl,rfl,rfl,rfl⟩,⟨_,_,rfl,rfl,rfl,rfl⟩,trivial⟩,by rw [hk]; decide⟩⟩))))
     trivial
    intro hJ
    refine w_seq (w_seq ?_)
    have hgl := takeG_len (b := b) (q := q) (by omega) (by omega)
    rw [← hG] at hgl
    refine W_drawn tabOk mixed hnt [[],[0],[0,1],[0,1,2],[0,1,2,3],[0,1,2,3,4],[0,1,2,3,4,5],[0,1,2,3],[0,1,2,3,7],(.range 9),(.range 10),(.range 11),(.range 12),(.range 13),(.range 14),(.range 15),(.range 16),(.range 17),(.range 18),(.range 19),(.range 20),(.range 21),(.range 19),(.range 19 ++ [22]),(.range 24),(.range 25),(.range 26),(.range 27),(.range 28),(.range 29),(.range 30),(.range 31),(.range 32),(.range 33),(.range 34),(.range 35),(.range 36),(.range 37),(.range 38),(.range 39),(.range 40),(.range 38),(.range 38 ++ [41]),(.range 43),(.range 44),(.range 45),(.range 46),(.range 47)] (by kernel_rfl) (d_op (xL [(7,PV.ptr 0 0)] [] [(0,.obj (cReply G))] rfl rfl rfl rfl rfl (s_load_ptr tab_53 rfl rfl rfl (Nat.le_of_ble_eq_true rfl) ⟨rfl,rfl,rfl⟩) ⟨rfl,trivial⟩ rfl (d_op (x_run0 [(118,PV.f (eReply G))] [0] rfl rfl rfl rfl (s_callF rfl rfl rfl (w_burgageref3_Good G (by omega)) rfl ⟨rfl,rfl,rfl⟩) (d_op ?_)))))
    refine x_run0 [(119,pI (goodR G))] [0,1] rfl rfl rfl rfl (s_neq rfl rfl ⟨rfl,rfl,rfl⟩) (d_op (x_run0 [(120,pB (!decide (goodR G = 0)))] [0,1,2] rfl rfl rfl rfl (s_move rfl ⟨rfl,rfl,rfl⟩) (x_if [(121,pB (!decide (goodR G = 0))),(7,PV.ptr 0 0)] [0,1,2,3] rfl rfl rfl rfl (fun g4 => ?_) (fun g4 => ?_))))
    ·have g4' := g4
     try simp only [sB] at g4'
     refine xL [(121,pB (!decide (goodR G = 0))),(7,PV.ptr 0 0)] [0,1,2,3] [(0,.obj (cReply G))] rfl rfl rfl rfl rfl (s_load_ptr tab_53 rfl rfl rfl (Nat.le_of_ble_eq_true rfl) ⟨rfl,rfl,rfl⟩) ⟨rfl,trivial⟩ rfl (xy [(121,pB (!decide (goodR G = 0))),(122,PV.f (eReply G))] [0,1,2,3,4] rfl rfl rfl rfl g4 (xT [(121,pB (!decide (goodR G = 0))),(122,PV.f (eReply G))] [0,1,2,3,4] [] [(3,oB false 1 enc8 (layR G))] [(0,.obj (cReply G)),(1,.obj (cRequest q)),(2,.obj [pI 0,pI 0,pI 0,pI 0,pI 0,pNil,pNil,p16 0,p16 0,pNil])] rfl rfl rfl rfl rfl (s_callX (r2 := PV.ref 3 0 none) (nx1 := 4) (H2 := []) (H3 := [(3,oB false 1 enc8 (layR G))]) [] [] rfl rfl rfl (handed_of (by decide) trivial) rfl rfl rfl rfl rfl rfl (w_burgageref3_lay G (by omega) (by omega)) rfl (dist_of rfl) rfl rfl rfl rfl ⟨rfl,rfl,rfl⟩) rfl rfl (xy [(121,pB (!decide (goodR G = 0))),(123,PV.ref 3 0 none)] [0,1,2,3,4,5] rfl rfl rfl rfl g4 (xL [(121,pB (!decide (goodR G = 0))),(123,PV.ref 3 0 none)] [0,1,2,3,4,5] [(3,oB false 1 enc8 (layR G))] rfl rfl rfl rfl rfl (s_cvT tab_51 tab_9 rfl tab_5 rfl rfl (hM_ref0 (f := enc8) rfl rfl) ⟨rfl,rfl,rfl⟩) ⟨rfl,trivial⟩ rfl (xy [(121,pB (!decide (goodR G = 0))),(0,pS 1 cl_b enc8 b)] [0,1,2,3] rfl rfl rfl rfl g4 ?_)))))
     refine x_run0 [(121,pB (!decide (goodR G = 0))),(0,pS 1 cl_b enc8 b)] [0,1,2,3] rfl rfl rfl rfl (s_move rfl ⟨rfl,rfl,rfl⟩) (xy [(121,pB (!decide (goodR G = 0))),(125,pS 1 cl_b enc8 b)] [0,1,2,3,7] rfl rfl rfl rfl g4 (x_run0 [(121,pB (!decide (goodR G = 0))),(125,pS 1 cl_b enc8 b)] [0,1,2,3,7] rfl rfl rfl rfl (s_cvT tab_51 tab_9 rfl tab_5 rfl rfl (hM_sl (f := enc8) rfl) ⟨rfl,rfl,rfl⟩) (xy [(121,pB (!decide (goodR G = 0))),(124,pT (layR G)),(126,pT b)] (.range 9) rfl rfl rfl rfl g4 (x_run0 [(121,pB (!decide (goodR G = 0))),(124,pT (layR G)),(126,pT b)] (.range 9) rfl rfl rfl rfl (s_netext (l := layR G) (m := b) rfl rfl ⟨rfl,rfl,rfl⟩) (d_op ?_)))))
     refine x_run0 [(121,pB (!decide (goodR G = 0))),(127,pB (!decide (layR G = b)))] (.range 10) rfl rfl rfl rfl (s_pick_f rfl g4 rfl ⟨rfl,rfl,rfl⟩) (d_op (x_run0 [(128,pB (!decide (layR G = b)))] (.range 11) rfl rfl rfl rfl (s_move rfl ⟨rfl,rfl,rfl⟩) (x_if [(129,pB (!decide (layR G = b))),(7,PV.ptr 0 0)] (.range 12) rfl rfl rfl rfl (fun g5 => ?_) (fun g5 => ?_))))
     ·have g5' := g5
      try simp only [sB] at g5'
      refine x_run0 [(129,pB (!decide (layR G = b))),(7,PV.ptr 0 0)] (.range 12) rfl rfl rfl rfl (s_fa_ptr tab_53 rfl rfl tab_3 (by decide) rfl ⟨rfl,rfl,rfl⟩) (xy [(129,pB (!decide (layR G = b))),(130,PV.ptr 0 1)] (.range 13) rfl rfl rfl rfl g5 (xL [(129,pB (!decide (layR G = b))),(130,PV.ptr 0 1)] (.range 13) [(0,.obj (cReply G))] rfl rfl rfl rfl rfl (s_load_ptr1 tab_3 rfl rfl rfl rfl rfl ⟨rfl,rfl,rfl⟩) ⟨rfl,trivial⟩ rfl (xy [(129,pB (!decide (layR G = b))),(131,pI G.code)] (.range 14) rfl rfl rfl rfl g5 (x_run0 [(129,pB (!decide (layR G = b))),(131,pI G.code)] (.range 14) rfl rfl rfl rfl (s_eql rfl rfl ⟨rfl,rfl,rfl⟩) (xy [(129,pB (!decide (layR G = b))),(132,pB (decide (G.code = 0)))] (.range 15) rfl rfl rfl rfl g5 ?_)))))
      refine x_run0 [(129,pB (!decide (layR G = b))),(132,pB (decide (G.code = 0)))] (.range 15) rfl rfl rfl rfl (s_move rfl ⟨rfl,rfl,rfl⟩) (x_if [(133,pB (decide (G.code = 0))),(6,pN (UInt8.toNat e1))] (.range 16) rfl rfl rfl rfl (fun g6 => ?_) (fun g6 => ?_))
      ·have g6' := g6
       try simp only [sB] at g6'
       refine x_run0 [(133,pB (decide (G.code = 0))),(6,pN (UInt8.toNat e1))] (.range 16) rfl rfl rfl rfl (s_move rfl ⟨rfl,rfl,rfl⟩) (xy [(133,pB (decide (G.code = 0))),(134,pN (UInt8.toNat e1))] (.range 17) rfl rfl rfl rfl g6 (x_run0 [(133,pB (decide (G.code = 0))),(134,pN (UInt8.toNat e1))] (.range 17) rfl rfl rfl rfl (s_leq rfl rfl ⟨rfl,rfl,rfl⟩) (xy [(133,pB (decide (G.code = 0))),(135,pB (decide (((UInt8.toNat e1 : Nat) : Int) ≤ 2)))] (.range 18) rfl rfl rfl rfl g6 (x_run0 [(133,pB (decide (G.code = 0))),(135,pB (decide (((UInt8.toNat e1 : Nat) : Int) ≤ 2)))] (.range 18) rfl rfl rfl rfl (s_move rfl ⟨rfl,rfl,rfl⟩) (x_if [(136,pB (decide (((UInt8.toNat e1 : Nat) : Int) ≤ 2))),(7,PV.ptr 0 0)] (.range 19) rfl rfl rfl rfl (fun g7 => ?_) (fun g7 => ?_))))))
       ·have g7' := g7
        try simp only [sB] at g7'
        refine x_run0 [(136,pB (decide (((UInt8.toNat e1 : Nat) : Int) ≤ 2))),(7,PV.ptr 0 0)] (.range 19) rfl rfl rfl rfl (s_fa_ptr tab_53 rfl rfl tab_42 (by decide) rfl ⟨rfl,rfl,rfl⟩) (xy [(136,pB (decide (((UInt8.toNat e1 : Nat) : Int) ≤ 2))),(137,PV.ptr 0 5)] (.range 20) rfl rfl rfl rfl g7 (xL [(136,pB (decide (((UInt8.toNat e1 : Nat) : Int) ≤ 2))),(137,PV.ptr 0 5)] (.range 20) [(0,.obj (cReply G))] rfl rfl rfl rfl rfl (s_load_ptr1 tab_42 rfl rfl rfl rfl rfl ⟨rfl,rfl,rfl⟩) ⟨rfl,trivial⟩ rfl (xy [(136,pB (decide (((UInt8.toNat e1 : Nat) : Int) ≤ 2))),(138,pS 1 false encBo G.bits)] (.range 21) rfl rfl rfl rfl g7 (x_run0 [(136,pB (decide (((UInt8.toNat e1 : Nat) : Int) ≤ 2))),(138,pS 1 false encBo G.bits)] (.range 21) rfl rfl rfl rfl (s_lenM (l := G.bits) tab_42 rfl (hM_sl (f := encBo) rfl) ⟨rfl,rfl,rfl⟩) (xy [(136,pB (decide (((UInt8.toNat e1 : Nat) : Int) ≤ 2))),(3,PV.ptr 1 0)] (.range 19) rfl rfl rfl rfl g7 ?_)))))
        refine x_run0 [(136,pB (decide (((UInt8.toNat e1 : Nat) : Int) ≤ 2))),(3,PV.ptr 1 0)] (.range 19) rfl rfl rfl rfl (s_fa_ptr tab_46 rfl rfl tab_3 (by decide) rfl ⟨rfl,rfl,rfl⟩) (xy [(136,pB (decide (((UInt8.toNat e1 : Nat) : Int) ≤ 2))),(140,PV.ptr 1 2)] (.range 19 ++ [22]) rfl rfl rfl rfl g7 (xL [(136,pB (decide (((UInt8.toNat e1 : Nat) : Int) ≤ 2))),(140,PV.ptr 1 2)] (.range 19 ++ [22]) [(1,.obj (cRequest q))] rfl rfl rfl rfl rfl (s_load_ptr1 tab_3 rfl rfl rfl rfl rfl ⟨rfl,rfl,rfl⟩) ⟨rfl,trivial⟩ rfl (xy [(136,pB (decide (((UInt8.toNat e1 : Nat) : Int) ≤ 2))),(139,pN G.bits.length),(141,pI q.count)] (.range 24) rfl rfl rfl rfl g7 (x_run0 [(136,pB (decide (((UInt8.toNat e1 : Nat) : Int) ≤ 2))),(139,pN G.bits.length),(141,pI q.count)] (.range 24) rfl rfl rfl rfl (s_neq rfl rfl ⟨rfl,rfl,rfl⟩) (xy [(133,pB (decide (G.code = 0))),(136,pB (decide (((UInt8.toNat e1 : Nat) : Int) ≤ 2))),(142,pB (!decide (((G.bits.length : Nat) : Int) = q.count)))] (.range 25) rfl rfl rfl rfl g6 ?_)))))
        refine x_run0 [(133,pB (decide (G.code = 0))),(136,pB (decide (((UInt8.toNat e1 : Nat) : Int) ≤ 2))),(142,pB (!decide (((G.bits.length : Nat) : Int) = q.count)))] (.range 25) rfl rfl rfl rfl (s_pick_t rfl g7 rfl ⟨rfl,rfl,rfl⟩) (xy [(133,pB (decide (G.code = 0))),(143,pB (!decide (((G.bits.length : Nat) : Int) = q.count)))] (.range 26) rfl rfl rfl rfl g6 (x_run0 [(133,pB (decide (G.code = 0))),(143,pB (!decide (((G.bits.length : Nat) : Int) = q.count)))] (.range 26) rfl rfl rfl rfl (s_move rfl ⟨rfl,rfl,rfl⟩) (x_if [(144,pB (!decide (((G.bits.length : Nat) : Int) = q.count))),(6,pN (UInt8.toNat e1))] (.range 27) rfl rfl rfl rfl (fun g8 => ?_) (fun g8 => ?_))))
        ·have g8' := g8
         try simp only [sB] at g8'
         refine x_run0 [(144,pB (!decide (((G.bits.length : Nat) : Int) = q.count))),(6,pN (UInt8.toNat e1))] (.range 27) rfl rfl rfl rfl (s_move rfl ⟨rfl,rfl,rfl⟩) (xy [(144,pB (!decide (((G.bits.length : Nat) : Int) = q.count))),(145,pN (UInt8.toNat e1))] (.range 28) rfl rfl rfl rfl g8 (x_run0 [(144,pB (!decide (((G.bits.length : Nat) : Int) = q.count))),(145,pN (UInt8.toNat e1))] (.range 28) rfl rfl rfl rfl (s_eql rfl rfl ⟨rfl,rfl,rfl⟩) (xy [(144,pB (!decide (((G.bits.length : Nat) : Int) = q.count))),(146,pB (decide (((UInt8.toNat e1 : Nat) : Int) = 3)))] (.range 29) rfl rfl rfl rfl g8 (x_run0 [(144,pB (!decide (((G.bits.length : Nat) : Int) = q.count))),(146,pB (decide (((UInt8.toNat e1 : Nat) : Int) = 3)))] (.range 29) rfl rfl rfl rfl (s_move rfl ⟨rfl,rfl,rfl⟩) (x_if [(147,pB (decide (((UInt8.toNat e1 : Nat) : Int) = 3))),(6,pN (UInt8.toNat e1))] (.range 30) rfl rfl rfl rfl (fun g9 => ?_) (fun g9 => ?_))))))
         ·have g9' := g9
          try simp only [sB] at g9'
          refine x_run0 [(147,pB (decide (((UInt8.toNat e1 : Nat) : Int) = 3))),(6,pN (UInt8.toNat e1))] (.range 30) rfl rfl rfl rfl (s_move rfl ⟨rfl,rfl,rfl⟩) (xy [(147,pB (decide (((UInt8.toNat e1 : Nat) : Int) = 3))),(148,pN (UInt8.toNat e1))] (.range 31) rfl rfl rfl rfl g9 (x_run0 [(147,pB (decide (((UInt8.toNat e1 : Nat) : Int) = 3))),(148,pN (UInt8.toNat e1))] (.range 31) rfl rfl rfl rfl (s_eql rfl rfl ⟨rfl,rfl,rfl⟩) (xy [(144,pB (!decide (((G.bits.length : Nat) : Int) = q.count))),(147,pB (decide (((UInt8.toNat e1 : Nat) : Int) = 3))),(149,pB (decide (((UInt8.toNat e1 : Nat) : Int) = 4)))] (.range 32) rfl rfl rfl rfl g8 (x_run0 [(144,pB (!decide (((G.bits.length : Nat) : Int) = q.count))),(147,pB (decide (((UInt8.toNat e1 : Nat) : Int) = 3))),(149,pB (decide (((UInt8.toNat e1 : Nat) : Int) = 4)))] (.range 32) rfl rfl rfl rfl (s_pick_f rfl g9 rfl ⟨rfl,rfl,rfl⟩) (xy [(144,pB (!decide (((G.bits.length : Nat) : Int) = q.count))),(150,pB (decide (((UInt8.toNat e1 : Nat) : Int) = 4)))] (.range 33) rfl rfl rfl rfl g8 ?_)))))
          refine x_run0 [(144,pB (!decide (((G.bits.length : Nat) : Int) = q.count))),(150,pB (decide (((UInt8.toNat e1 : Nat) : Int) = 4)))] (.range 33) rfl rfl rfl rfl (s_move rfl ⟨rfl,rfl,rfl⟩) (x_if [(151,pB (decide (((UInt8.toNat e1 : Nat) : Int) = 4))),(6,pN (UInt8.toNat e1))] (.range 34) rfl rfl rfl rfl (fun g10 => ?_) (fun g10 => ?_))
          ·have g10' := g10
           try simp only [sB] at g10'
           refine x_run0 [(151,pB (decide (((UInt8.toNat e1 : Nat) : Int) = 4))),(6,pN (UInt8.toNat e1))] (.range 34) rfl rfl rfl rfl (s_move rfl ⟨rfl,rfl,rfl⟩) (xy [(151,pB (decide (((UInt8.toNat e1 : Nat) : Int) = 4))),(152,pN (UInt8.toNat e1))] (.range 35) rfl rfl rfl rfl g10 (x_run0 [(151,pB (decide (((UInt8.toNat e1 : Nat) : Int) = 4))),(152,pN (UInt8.toNat e1))] (.range 35) rfl rfl rfl rfl (s_eql rfl rfl ⟨rfl,rfl,rfl⟩) (xy [(144,pB (!decide (((G.bits.length : Nat) : Int) = q.count))),(151,pB (decide (((UInt8.toNat e1 : Nat) : Int) = 4))),(153,pB (decide (((UInt8.toNat e1 : Nat) : Int) = 23)))] (.range 36) rfl rfl rfl rfl g8 (x_run0 [(144,pB (!decide (((G.bits.length : Nat) : Int) = q.count))),(151,pB (decide (((UInt8.toNat e1 : Nat) : Int) = 4))),(153,pB (decide (((UInt8.toNat e1 : Nat) : Int) = 23)))] (.range 36) rfl rfl rfl rfl (s_pick_f rfl g10 rfl ⟨rfl,rfl,rfl⟩) (xy [(144,pB (!decide (((G.bits.length : Nat) : Int) = q.count))),(154,pB (decide (((UInt8.toNat e1 : Nat) : Int) = 23)))] (.range 37) rfl rfl rfl rfl g8 ?_)))))
           refine x_run0 [(144,pB (!decide (((G.bits.length : Nat) : Int) = q.count))),(154,pB (decide (((UInt8.toNat e1 : Nat) : Int) = 23)))] (.range 37) rfl rfl rfl rfl (s_move rfl ⟨rfl,rfl,rfl⟩) (x_if [(155,pB (decide (((UInt8.toNat e1 : Nat) : Int) = 23))),(7,PV.ptr 0 0)] (.range 38) rfl rfl rfl rfl (fun g11 => ?_) (fun g11 => ?_))
           ·have g11' := g11
            try simp only [sB] at g11'
            refine x_run0 [(155,pB (decide (((UInt8.toNat e1 : Nat) : Int) = 23))),(7,PV.ptr 0 0)] (.range 38) rfl rfl rfl rfl (s_fa_ptr tab_53 rfl rfl tab_43 (by decide) rfl ⟨rfl,rfl,rfl⟩) (xy [(155,pB (decide (((UInt8.toNat e1 : Nat) : Int) = 23))),(156,PV.ptr 0 6)] (.range 39) rfl rfl rfl rfl g11 (xL [(155,pB (decide (((UInt8.toNat e1 : Nat) : Int) = 23))),(156,PV.ptr 0 6)] (.range 39) [(0,.obj (cReply G))] rfl rfl rfl rfl rfl (s_load_ptr1 tab_43 rfl rfl rfl rfl rfl ⟨rfl,rfl,rfl⟩) ⟨rfl,trivial⟩ rfl (xy [(155,pB (decide (((UInt8.toNat e1 : Nat) : Int) = 23))),(157,pS 1 false enc16 G.vals)] (.range 40) rfl rfl rfl rfl g11 (x_run0 [(155,pB (decide (((UInt8.toNat e1 : Nat) : Int) = 23))),(157,pS 1 false enc16 G.vals)] (.range 40) rfl rfl rfl rfl (s_lenM (l := G.vals) tab_43 rfl (hM_sl (f := enc16) rfl) ⟨rfl,rfl,rfl⟩) (xy [(155,pB (decide (((UInt8.toNat e1 : Nat) : Int) = 23))),(3,PV.ptr 1 0)] (.range 38) rfl rfl rfl rfl g11 ?_)))))
            refine x_run0 [(155,pB (decide (((UInt8.toNat e1 : Nat) : Int) = 23))),(3,PV.ptr 1 0)] (.range 38) rfl rfl rfl rfl (s_fa_ptr tab_46 rfl rfl tab_3 (by decide) rfl ⟨rfl,rfl,rfl⟩) (xy [(155,pB (decide (((UInt8.toNat e1 : Nat) : Int) = 23))),(159,PV.ptr 1 2)] (.range 38 ++ [41]) rfl rfl rfl rfl g11 (xL [(155,pB (decide (((UInt8.toNat e1 : Nat) : Int) = 23))),(159,PV.ptr 1 2)] (.range 38 ++ [41]) [(1,.obj (cRequest q))] rfl rfl rfl rfl rfl (s_load_ptr1 tab_3 rfl rfl rfl rfl rfl ⟨rfl,rfl,rfl⟩) ⟨rfl,trivial⟩ rfl (xy [(155,pB (decide (((UInt8.toNat e1 : Nat) : Int) = 23))),(158,pN G.vals.length),(160,pI q.count)] (.range 43) rfl rfl rfl rfl g11 (x_run0 [(155,pB (decide (((UInt8.toNat e1 : Nat) : Int) = 23))),(158,pN G.vals.length),(160,pI q.count)] (.range 43) rfl rfl rfl rfl (s_neq rfl rfl ⟨rfl,rfl,rfl⟩) (xy [(144,pB (!decide (((G.bits.length : Nat) : Int) = q.count))),(155,pB (decide (((UInt8.toNat e1 : Nat) : Int) = 23))),(161,pB (!decide (((G.vals.length : Nat) : Int) = q.count)))] (.range 44) rfl rfl rfl rfl g8 ?_)))))
            refine x_run0 [(144,pB (!decide (((G.bits.length : Nat) : Int) = q.count))),(155,pB (decide (((UInt8.toNat e1 : Nat) : Int) = 23))),(161,pB (!decide (((G.vals.length : Nat) : Int) = q.count)))] (.range 44) rfl rfl rfl rfl (s_pick_t rfl g11 rfl ⟨rfl,rfl,rfl⟩) (xy [(133,pB (decide (G.code = 0))),(144,pB (!decide (((G.bits.length : Nat) : Int) = q.count))),(162,pB (!decide (((G.vals.length : Nat) : Int) = q.count)))] (.range 45) rfl rfl rfl rfl g6 (x_run0 [(133,pB (decide (G.code = 0))),(144,pB (!decide (((G.bits.length : Nat) : Int) = q.count))),(162,pB (!decide (((G.vals.length : Nat) : Int) = q.count)))] (.range 45) rfl rfl rfl rfl (s_pick_f rfl g8 rfl ⟨rfl,rfl,rfl⟩) (xy [(129,pB (!decide (layR G = b))),(133,pB (decide (G.code = 0))),(163,pB (!decide (((G.vals.length : Nat) : Int) = q.count)))] (.range 46) rfl rfl rfl rfl g5 (x_run0 [(129,pB (!decide (layR G = b))),(133,pB (decide (G.code = 0))),(163,pB (!decide (((G.vals.length : Nat) : Int) = q.count)))] (.range 46) rfl rfl rfl rfl (s_pick_t rfl g6 rfl ⟨rfl,rfl,rfl⟩) (d_op ?_)))))
            refine x_run0 [(129,pB (!decide (layR G = b))),(164,pB (!decide (((G.vals.length : Nat) : Int) = q.count)))] (.range 47) rfl rfl rfl rfl (s_pick_f rfl g5 rfl ⟨rfl,rfl,rfl⟩) (d_end ⟨by kernel_rfl, ?_⟩)
            refine q_then (w_if rfl (fun c16 => ?_) (fun c16 => ?_))
            ·have c16_ := c16
             try simp only [sB] at c16
             refine w_seq (w_R (qo hnt rfl (s_build tab_53 rfl rfl (b_nil ?_))))
             refine qo hnt rfl (s_store_ptr tab_53 rfl rfl rfl rfl rfl (Nat.le_of_ble_eq_true rfl) ?_)
             refine qa hnt rfl rfl (r_set [(4,PV.ptr 2 0),(5,pI 12)] [(2,.obj [pI 0,pI 0,pI 0,pI 0,pI 0,pNil,pNil,p16 0,p16 0,pNil]),(3,oB false 1 enc8 (layR G)),(0,.obj (cReply G)),(1,.obj (cRequest q))] 4 ⟨rfl,rfl,trivial⟩ rfl rfl (r_end (q_then ?_)))
             have hz13 : 0 = R.1.fn ∧ 0 = R.1.code ∧ 0 = R.1.at_ ∧ 0 = R.1.count ∧ 0 = R.1.sub ∧ ([] : List Bool) = R.1.bits ∧ ([] : List UInt16) = R.1.vals ∧ 0 = R.1.and_ ∧ 0 = R.1.or_ ∧ ([] : List UInt8) = R.1.data := by and_intros <;> ((rw [hR,takeW_1 (by omega)] <;> rfl))
             refine w_leO (n := 2) (ds := cReply R.1) rfl ⟨le_of_eq (congrArg pI hz13.1),le_of_eq (congrArg pI hz13.2.1),le_of_eq (congrArg pI hz13.2.2.1),le_of_eq (congrArg pI hz13.2.2.2.1),le_of_eq (congrArg pI hz13.2.2.2.2.1),le_tr (le_nilS 1 false) (le_of_eq (congrArg (fun z => pS 1 false encBo z) hz13.2.2.2.2.2.1)),le_tr (le_nilS 1 false) (le_of_eq (congrArg (fun z => pS 1 false enc16 z) hz13.2.2.2.2.2.2.1)),le_of_eq (congrArg p16 hz13.2.2.2.2.2.2.2.1),le_of_eq (congrArg p16 hz13.2.2.2.2.2.2.2.2.1),le_tr (le_nilS 1 false) (le_of_eq (congrArg (fun z => pS 1 false enc8 z) hz13.2.2.2.2.2.2.2.2.2)),trivial⟩ (w_le (s := 5) (y := pI R.2) rfl (le_of_eq (congrArg pI (show 12 = R.2 by (rw [hR,takeW_3 (by omega) hb0 hask hG (fun x y z => by first|contradiction|(exfalso; have hh := head_b hb0 x y; rw [if_neg (by omega)] at hh; have z2 := z (by omega); have z3 := good_ge x (by omega); omega))] <;> rfl)))) (w_ret (q_then_ret ?_)))
             exact fin_plain (ret_cell tab_53 (by decide) rfl rfl (Nat.le_of_ble_eq_true rfl) rfl (ret_tmp rfl ret_nil)) rfl rfl ⟨rfl,rfl,rfl⟩
            have c16_ := c16
            try simp only [sB] at c16
            refine w_skip (q_then (w_seq (w_R (qo hnt rfl (s_load_ptr tab_53 rfl rfl rfl (Nat.le_of_ble_eq_true rfl) ?_)))))
            refine qo hnt rfl (s_store_ptr tab_53 rfl rfl rfl rfl rfl (Nat.le_of_ble_eq_true rfl) ?_)
            refine qa hnt rfl rfl (r_set [(4,PV.ptr 2 0),(5,pI 0)] [(2,.obj (cReply G)),(3,oB false 1 enc8 (layR G)),(0,.obj (cReply G)),(1,.obj (cRequest q))] 4 ⟨rfl,rfl,trivial⟩ rfl rfl (r_end (q_then ?_)))
            have hz14 : G.fn = R.1.fn ∧ G.code = R.1.code ∧ G.at_ = R.1.at_ ∧ G.count = R.1.count ∧ G.sub = R.1.sub ∧ G.bits = R.1.bits ∧ G.vals = R.1.vals ∧ G.and_ = R.1.and_ ∧ G.or_ = R.1.or_ ∧ G.data = R.1.data := by and_intros <;> ((rw [hR,takeW_4 (by omega) hb0 hask hG (by assumption) (by assumption) (fun h0 => by have hh := head_b hb0 (by assumption) (by assumption); rw [if_neg (by omega)] at hh; constructor <;> intro h <;> omega)] <;> rfl))
            refine w_leO (n := 2) (ds := cReply R.1) rfl ⟨le_of_eq (congrArg pI hz14.1),le_of_eq (congrArg pI hz14.2.1),le_of_eq (congrArg pI hz14.2.2.1),le_of_eq (congrArg pI hz14.2.2.2.1),le_of_eq (congrArg pI hz14.2.2.2.2.1),le_of_eq (congrArg (fun z => pS 1 false encBo z) hz14.2.2.2.2.2.1),le_of_eq (congrArg (fun z => pS 1 false enc16 z) hz14.2.2.2.2.2.2.1),le_of_eq (congrArg p16 hz14.2.2.2.2.2.2.2.1),le_of_eq (congrArg p16 hz14.2.2.2.2.2.2.2.2.1),le_of_eq (congrArg (fun z => pS 1 false enc8 z) hz14.2.2.2.2.2.2.2.2.2),trivial⟩ (w_le (s := 5) (y := pI R.2) rfl (le_of_eq (congrArg pI (show 0 = R.2 by (rw [hR,takeW_4 (by omega) hb0 hask hG (by assumption) (by assumption) (fun h0 => by have hh := head_b hb0 (by assumption) (by assumption); rw [if_neg (by omega)] at hh; constructor <;> intro h <;> omega)] <;> rfl)))) (w_ret ?_))
            exact fin_plain (ret_cell tab_53 (by decide) rfl rfl (Nat.le_of_ble_eq_true rfl) rfl (ret_tmp rfl ret_nil)) rfl rfl ⟨rfl,rfl,rfl⟩
           have g11' := g11
           try simp only [sB] at g11'
           refine xn [(155,pB (decide (((UInt8.toNat e1 : Nat) : Int) = 23))),(156,undefP)] (.range 39) rfl rfl rfl rfl g11 (xn [(155,pB (decide (((UInt8.toNat e1 : Nat) : Int) = 23))),(157,undefP)] (.range 40) rfl rfl rfl rfl g11 (xn [(155,pB (decide (((UInt8.toNat e1 : Nat) : Int) = 23))),(3,PV.ptr 1 0)] (.range 38) rfl rfl rfl rfl g11 (xn [(155,pB (decide (((UInt8.toNat e1 : Nat) : Int) = 23))),(159,undefP)] (.range 38 ++ [41]) rfl rfl rfl rfl g11 (xn [(155,pB (decide (((UInt8.toNat e1 : Nat) : Int) = 23))),(158,undefP),(160,undefP)] (.range 43) rfl rfl rfl rfl g11 (xy [(144,pB (!decide (((G.bits.length : Nat) : Int) = q.count))),(155,pB (decide (((UInt8.toNat e1 : Nat) : Int) = 23))),(161,undefP)] (.range 44) rfl rfl rfl rfl g8 ?_)))))
           refine x_run0 [(144,pB (!decide (((G.bits.length : Nat) : Int) = q.count))),(155,pB (decide (((UInt8.toNat e1 : Nat) : Int) = 23))),(161,undefP)] (.range 44) rfl rfl rfl rfl (s_pick_f rfl g11 rfl ⟨rfl,rfl,rfl⟩) (xy [(133,pB (decide (G.code = 0))),(144,pB (!decide (((G.bits.length : Nat) : Int) = q.count))),(162,pB false)] (.range 45) rfl rfl rfl rfl g6 (x_run0 [(133,pB (decide (G.code = 0))),(144,pB (!decide (((G.bits.length : Nat) : Int) = q.count))),(162,pB false)] (.range 45) rfl rfl rfl rfl (s_pick_f rfl g8 rfl ⟨rfl,rfl,rfl⟩) (xy [(129,pB (!decide (layR G = b))),(133,pB (decide (G.code = 0))),(163,pB false)] (.range 46) rfl rfl rfl rfl g5 (x_run0 [(129,pB (!decide (layR G = b))),(133,pB (decide (G.code = 0))),(163,pB false)] (.range 46) rfl rfl rfl rfl (s_pick_t rfl g6 rfl ⟨rfl,rfl,rfl⟩) (d_op ?_)))))
           refine x_run0 [(129,pB (!decide (layR G = b))),(164,pB false)] (.range 47) rfl rfl rfl rfl (s_pick_f rfl g5 rfl ⟨rfl,rfl,rfl⟩) (d_end ⟨by kernel_rfl, ?_⟩)
           refine q_then (w_if rfl (fun e => absurd e (by decide)) (fun _ => ?_))
           refine w_skip (q_then (w_seq (w_R (qo hnt rfl (s_load_ptr tab_53 rfl rfl rfl (Nat.le_of_ble_eq_true rfl) ?_)))))
           refine qo hnt rfl (s_store_ptr tab_53 rfl rfl rfl rfl rfl (Nat.le_of_ble_eq_true rfl) ?_)
           refine qa hnt rfl rfl (r_set [(4,PV.ptr 2 0),(5,pI 0)] [(2,.obj (cReply G)),(3,oB false 1 enc8 (layR G)),(0,.obj (cReply G)),(1,.obj (cRequest q))] 4 ⟨rfl,rfl,trivial⟩ rfl rfl (r_end (q_then ?_)))
           have hz15 : G.fn = R.1.fn ∧ G.code = R.1.code ∧ G.at_ = R.1.at_ ∧ G.count = R.1.count ∧ G.sub = R.1.sub ∧ G.bits = R.1.bits ∧ G.vals = R.1.vals ∧ G.and_ = R.1.and_ ∧ G.or_ = R.1.or_ ∧ G.data = R.1.data := by and_intros <;> ((rw [hR,takeW_4 (by omega) hb0 hask hG (by assumption) (by assumption) (fun h0 => by have hh := head_b hb0 (by assumption) (by assumption); rw [if_neg (by omega)] at hh; constructor <;> intro h <;> omega)] <;> rfl))
           refine w_leO (n := 2) (ds := cReply R.1) rfl ⟨le_of_eq (congrArg pI hz15.1),le_of_eq (congrArg pI hz15.2.1),le_of_eq (congrArg pI hz15.2.2.1),le_of_eq (congrArg pI hz15.2.2.2.1),le_of_eq (congrArg pI hz15.2.2.2.2.1),le_of_eq (congrArg (fun z => pS 1 false encBo z) hz15.2.2.2.2.2.1),le_of_eq (congrArg (fun z => pS 1 false enc16 z) hz15.2.2.2.2.2.2.1),le_of_eq (congrArg p16 hz15.2.2.2.2.2.2.2.1),le_of_eq (congrArg p16 hz15.2.2.2.2.2.2.2.2.1),le_of_eq (congrArg (fun z => pS 1 false enc8 z) hz15.2.2.2.2.2.2.2.2.2),trivial⟩ (w_le (s := 5) (y := pI R.2) rfl (le_of_eq (congrArg pI (show 0 = R.2 by (rw [hR,takeW_4 (by omega) hb0 hask hG (by assumption) (by assumption) (fun h0 => by have hh := head_b hb0 (by assumption) (by assumption); rw [if_neg (by omega)] at hh; constructor <;> intro h <;> omega)] <;> rfl)))) (w_ret ?_))
           exact fin_plain (ret_cell tab_53 (by decide) rfl rfl (Nat.le_of_ble_eq_true rfl) rfl (ret_tmp rfl ret_nil)) rfl rfl ⟨rfl,rfl,rfl⟩
          have g10' := g10
          try simp only [sB] at g10'
          refine xn [(151,pB (decide (((UInt8.toNat e1 : Nat) : Int) = 4))),(152,undefP)] (.range 35) rfl rfl rfl rfl g10 (xy [(144,pB (!decide (((G.bits.length : Nat) : Int) = q.count))),(151,pB (decide (((UInt8.toNat e1 : Nat) : Int) = 4))),(153,undefP)] (.range 36) rfl rfl rfl rfl g8 (x_run0 [(144,pB (!decide (((G.bits.length : Nat) : Int) = q.count))),(151,pB (decide (((UInt8.toNat e1 : Nat) : Int) = 4))),(153,undefP)] (.range 36) rfl rfl rfl rfl (s_pick_t rfl g10 rfl ⟨rfl,rfl,rfl⟩) (xy [(144,pB (!decide (((G.bits.length : Nat) : Int) = q.count))),(154,pB true)] (.range 37) rfl rfl rfl rfl g8 (x_run0 [(144,pB (!decide (((G.bits.length : Nat) : Int) = q.count))),(154,pB true)] (.range 37) rfl rfl rfl rfl (s_move rfl ⟨rfl,rfl,rfl⟩) (xy [(155,pB true),(7,PV.ptr 0 0)] (.range 38) rfl rfl rfl rfl rfl ?_)))))
          refine x_run0 [(155,pB true),(7,PV.ptr 0 0)] (.range 38) rfl rfl rfl rfl (s_fa_ptr tab_53 rfl rfl tab_43 (by decide) rfl ⟨rfl,rfl,rfl⟩) (xy [(155,pB true),(156,PV.ptr 0 6)] (.range 39) rfl rfl rfl rfl rfl (xL [(155,pB true),(156,PV.ptr 0 6)] (.range 39) [(0,.obj (cReply G))] rfl rfl rfl rfl rfl (s_load_ptr1 tab_43 rfl rfl rfl rfl rfl ⟨rfl,rfl,rfl⟩) ⟨rfl,trivial⟩ rfl (xy [(155,pB true),(157,pS 1 false enc16 G.vals)] (.range 40) rfl rfl rfl rfl rfl (x_run0 [(155,pB true),(157,pS 1 false enc16 G.vals)] (.range 40) rfl rfl rfl rfl (s_lenM (l := G.vals) tab_43 rfl (hM_sl (f := enc16) rfl) ⟨rfl,rfl,rfl⟩) (xy [(155,pB true),(3,PV.ptr 1 0)] (.range 38) rfl rfl rfl rfl rfl ?_)))))
          refine x_run0 [(155,pB true),(3,PV.ptr 1 0)] (.range 38) rfl rfl rfl rfl (s_fa_ptr tab_46 rfl rfl tab_3 (by decide) rfl ⟨rfl,rfl,rfl⟩) (xy [(155,pB true),(159,PV.ptr 1 2)] (.range 38 ++ [41]) rfl rfl rfl rfl rfl (xL [(155,pB true),(159,PV.ptr 1 2)] (.range 38 ++ [41]) [(1,.obj (cRequest q))] rfl rfl rfl rfl rfl (s_load_ptr1 tab_3 rfl rfl rfl rfl rfl ⟨rfl,rfl,rfl⟩) ⟨rfl,trivial⟩ rfl (xy [(155,pB true),(158,pN G.vals.length),(160,pI q.count)] (.range 43) rfl rfl rfl rfl rfl (x_run0 [(155,pB true),(158,pN G.vals.length),(160,pI q.count)] (.range 43) rfl rfl rfl rfl (s_neq rfl rfl ⟨rfl,rfl,rfl⟩) (xy [(144,pB (!decide (((G.bits.length : Nat) : Int) = q.count))),(155,pB true),(161,pB (!decide (((G.vals.length : Nat) : Int) = q.count)))] (.range 44) rfl rfl rfl rfl g8 ?_)))))
          refine x_run0 [(144,pB (!decide (((G.bits.length : Nat) : Int) = q.count))),(155,pB true),(161,pB (!decide (((G.vals.length : Nat) : Int) = q.count)))] (.range 44) rfl rfl rfl rfl (s_pick_t rfl rfl rfl ⟨rfl,rfl,rfl⟩) (xy [(133,pB (decide (G.code = 0))),(144,pB (!decide (((G.bits.length : Nat) : Int) = q.count))),(162,pB (!decide (((G.vals.length : Nat) : Int) = q.count)))] (.range 45) rfl rfl rfl rfl g6 (x_run0 [(133,pB (decide (G.code = 0))),(144,pB (!decide (((G.bits.length : Nat) : Int) = q.count))),(162,pB (!decide (((G.vals.length : Nat) : Int) = q.count)))] (.range 45) rfl rfl rfl rfl (s_pick_f rfl g8 rfl ⟨rfl,rfl,rfl⟩) (xy [(129,pB (!decide (layR G = b))),(133,pB (decide (G.code = 0))),(163,pB (!decide (((G.vals.length : Nat) : Int) = q.count)))] (.range 46) rfl rfl rfl rfl g5 (x_run0 [(129,pB (!decide (layR G = b))),(133,pB (decide (G.code = 0))),(163,pB (!decide (((G.vals.length : Nat) : Int) = q.count)))] (.range 46) rfl rfl rfl rfl (s_pick_t rfl g6 rfl ⟨rfl,rfl,rfl⟩) (d_op ?_)))))
          refine x_run0 [(129,pB (!decide (layR G = b))),(164,pB (!decide (((G.vals.length : Nat) : Int) = q.count)))] (.range 47) rfl rfl rfl rfl (s_pick_f rfl g5 rfl ⟨rfl,rfl,rfl⟩) (d_end ⟨by kernel_rfl, ?_⟩)
          refine q_then (w_if rfl (fun c17 => ?_) (fun c17 => ?_))
          ·have c17_ := c17
           try simp only [sB] at c17
           refine w_seq (w_R (qo hnt rfl (s_build tab_53 rfl rfl (b_nil ?_))))
           refine qo hnt rfl (s_store_ptr tab_53 rfl rfl rfl rfl rfl (Nat.le_of_ble_eq_true rfl) ?_)
           refine qa hnt rfl rfl (r_set [(4,PV.ptr 2 0),(5,pI 12)] [(2,.obj [pI 0,pI 0,pI 0,pI 0,pI 0,pNil,pNil,p16 0,p16 0,pNil]),(3,oB false 1 enc8 (layR G)),(0,.obj (cReply G)),(1,.obj (cRequest q))] 4 ⟨rfl,rfl,trivial⟩ rfl rfl (r_end (q_then ?_)))
           have hz16 : 0 = R.1.fn ∧ 0 = R.1.code ∧ 0 = R.1.at_ ∧ 0 = R.1.count ∧ 0 = R.1.sub ∧ ([] : List Bool) = R.1.bits ∧ ([] : List UInt16) = R.1.vals ∧ 0 = R.1.and_ ∧ 0 = R.1.or_ ∧ ([] : List UInt8) = R.1.data := by and_intros <;> ((rw [hR,takeW_1 (by omega)] <;> rfl))
           refine w_leO (n := 2) (ds := cReply R.1) rfl ⟨le_of_eq (congrArg pI hz16.1),le_of_eq (congrArg pI hz16.2.1),le_of_eq (congrArg pI hz16.2.2.1),le_of_eq (congrArg pI hz16.2.2.2.1),le_of_eq (congrArg pI hz16.2.2.2.2.1),le_tr (le_nilS 1 false) (le_of_eq (congrArg (fun z => pS 1 false encBo z) hz16.2.2.2.2.2.1)),le_tr (le_nilS 1 false) (le_of_eq (congrArg (fun z => pS 1 false enc16 z) hz16.2.2.2.2.2.2.1)),le_of_eq (congrArg p16 hz16.2.2.2.2.2.2.2.1),le_of_eq (congrArg p16 hz16.2.2.2.2.2.2.2.2.1),le_tr (le_nilS 1 false) (le_of_eq (congrArg (fun z => pS 1 false enc8 z) hz16.2.2.2.2.2.2.2.2.2)),trivial⟩ (w_le (s := 5) (y := pI R.2) rfl (le_of_eq (congrArg pI (show 12 = R.2 by (rw [hR,takeW_3 (by omega) hb0 hask hG (fun x y z => by first|contradiction|(exfalso; have hh := head_b hb0 x y; rw [if_neg (by omega)] at hh; have z2 := z (by omega); have z3 := good_ge x (by omega); omega))] <;> rfl)))) (w_ret (q_then_ret ?_)))
           exact fin_plain (ret_cell tab_53 (by decide) rfl rfl (Nat.le_of_ble_eq_true rfl) rfl (ret_tmp rfl ret_nil)) rfl rfl ⟨rfl,rfl,rfl⟩
          have c17_ := c17
          try simp only [sB] at c17
          refine w_skip (q_then (w_seq (w_R (qo hnt rfl (s_load_ptr tab_53 rfl rfl rfl (Nat.le_of_ble_eq_true rfl) ?_)))))
          refine qo hnt rfl (s_store_ptr tab_53 rfl rfl rfl rfl rfl (Nat.le_of_ble_eq_true rfl) ?_)
          refine qa hnt rfl rfl (r_set [(4,PV.ptr 2 0),(5,pI 0)] [(2,.obj (cReply G)),(3,oB false 1 enc8 (layR G)),(0,.obj (cReply G)),(1,.obj (cRequest q))] 4 ⟨rfl,rfl,trivial⟩ rfl rfl (r_end (q_then ?_)))
          have hz17 : G.fn = R.1.fn ∧ G.code = R.1.code ∧ G.at_ = R.1.at_ ∧ G.count = R.1.count ∧ G.sub = R.1.sub ∧ G.bits = R.1.bits ∧ G.vals = R.1.vals ∧ G.and_ = R.1.and_ ∧ G.or_ = R.1.or_ ∧ G.data = R.1.data := by and_intros <;> ((rw [hR,takeW_4 (by omega) hb0 hask hG (by assumption) (by assumption) (fun h0 => by have hh := head_b hb0 (by assumption) (by assumption); rw [if_neg (by omega)] at hh; constructor <;> intro h <;> omega)] <;> rfl))
          refine w_leO (n := 2) (ds := cReply R.1) rfl ⟨le_of_eq (congrArg pI hz17.1),le_of_eq (congrArg pI hz17.2.1),le_of_eq (congrArg pI hz17.2.2.1),le_of_eq (congrArg pI hz17.2.2.2.1),le_of_eq (congrArg pI hz17.2.2.2.2.1),le_of_eq (congrArg (fun z => pS 1 false encBo z) hz17.2.2.2.2.2.1),le_of_eq (congrArg (fun z => pS 1 false enc16 z) hz17.2.2.2.2.2.2.1),le_of_eq (congrArg p16 hz17.2.2.2.2.2.2.2.1),le_of_eq (congrArg p16 hz17.2.2.2.2.2.2.2.2.1),le_of_eq (congrArg (fun z => pS 1 false enc8 z) hz17.2.2.2.2.2.2.2.2.2),trivial⟩ (w_le (s := 5) (y := pI R.2) rfl (le_of_eq (congrArg pI (show 0 = R.2 by (rw [hR,takeW_4 (by omega) hb0 hask hG (by assumption) (by assumption) (fun h0 => by have hh := head_b hb0 (by assumption) (by assumption); rw [if_neg (by omega)] at hh; constructor <;> intro h <;> omega)] <;> rfl)))) (w_ret ?_))
          exact fin_plain (ret_cell tab_53 (by decide) rfl rfl (Nat.le_of_ble_eq_true rfl) rfl (ret_tmp rfl ret_nil)) rfl rfl ⟨rfl,rfl,rfl⟩
         have g9' := g9
         try simp only [sB] at g9'
         refine xn [(147,pB (decide (((UInt8.toNat e1 : Nat) : Int) = 3))),(148,undefP)] (.range 31) rfl rfl rfl rfl g9 (xy [(144,pB (!decide (((G.bits.length : Nat) : Int) = q.count))),(147,pB (decide (((UInt8.toNat e1 : Nat) : Int) = 3))),(149,undefP)] (.range 32) rfl rfl rfl rfl g8 (x_run0 [(144,pB (!decide (((G.bits.length : Nat) : Int) = q.count))),(147,pB (decide (((UInt8.toNat e1 : Nat) : Int) = 3))),(149,undefP)] (.range 32) rfl rfl rfl rfl (s_pick_t rfl g9 rfl ⟨rfl,rfl,rfl⟩) (xy [(144,pB (!decide (((G.bits.length : Nat) : Int) = q.count))),(150,pB true)] (.range 33) rfl rfl rfl rfl g8 (x_run0 [(144,pB (!decide (((G.bits.length : Nat) : Int) = q.count))),(150,pB true)] (.range 33) rfl rfl rfl rfl (s_move rfl ⟨rfl,rfl,rfl⟩) (xn [(151,pB true),(6,pN (UInt8.toNat e1))] (.range 34) rfl rfl rfl rfl rfl ?_)))))
         refine xn [(151,pB true),(152,undefP)] (.range 35) rfl rfl rfl rfl rfl (xy [(144,pB (!decide (((G.bits.length : Nat) : Int) = q.count))),(151,pB true),(153,undefP)] (.range 36) rfl rfl rfl rfl g8 (x_run0 [(144,pB (!decide (((G.bits.length : Nat) : Int) = q.count))),(151,pB true),(153,undefP)] (.range 36) rfl rfl rfl rfl (s_pick_t rfl rfl rfl ⟨rfl,rfl,rfl⟩) (xy [(144,pB (!decide (((G.bits.length : Nat) : Int) = q.count))),(154,pB true)] (.range 37) rfl rfl rfl rfl g8 (x_run0 [(144,pB (!decide (((G.bits.length : Nat) : Int) = q.count))),(154,pB true)] (.range 37) rfl rfl rfl rfl (s_move rfl ⟨rfl,rfl,rfl⟩) (xy [(155,pB true),(7,PV.ptr 0 0)] (.range 38) rfl rfl rfl rfl rfl ?_)))))
         refine x_run0 [(155,pB true),(7,PV.ptr 0 0)] (.range 38) rfl rfl rfl rfl (s_fa_ptr tab_53 rfl rfl tab_43 (by decide) rfl ⟨rfl,rfl,rfl⟩) (xy [(155,pB true),(156,PV.ptr 0 6)] (.range 39) rfl rfl rfl rfl rfl (xL [(155,pB true),(156,PV.ptr 0 6)] (.range 39) [(0,.obj (cReply G))] rfl rfl rfl rfl rfl (s_load_ptr1 tab_43 rfl rfl rfl rfl rfl ⟨rfl,rfl,rfl⟩) ⟨rfl,trivial⟩ rfl (xy [(155,pB true),(157,pS 1 false enc16 G.vals)] (.range 40) rfl rfl rfl rfl rfl (x_run0 [(155,pB true),(157,pS 1 false enc16 G.vals)] (.range 40) rfl rfl rfl rfl (s_lenM (l := G.vals) tab_43 rfl (hM_sl (f := enc16) rfl) ⟨rfl,rfl,rfl⟩) (xy [(155,pB true),(3,PV.ptr 1 0)] (.range 38) rfl rfl rfl rfl rfl ?_)))))
         refine x_run0 [(155,pB true),(3,PV.ptr 1 0)] (.range 38) rfl rfl rfl rfl (s_fa_ptr tab_46 rfl rfl tab_3 (by decide) rfl ⟨rfl,rfl,rfl⟩) (xy [(155,pB true),(159,PV.ptr 1 2)] (.range 38 ++ [41]) rfl rfl rfl rfl rfl (xL [(155,pB true),(159,PV.ptr 1 2)] (.range 38 ++ [41]) [(1,.obj (cRequest q))] rfl rfl rfl rfl rfl (s_load_ptr1 tab_3 rfl rfl rfl rfl rfl ⟨rfl,rfl,rfl⟩) ⟨rfl,trivial⟩ rfl (xy [(155,pB true),(158,pN G.vals.length),(160,pI q.count)] (.range 43) rfl rfl rfl rfl rfl (x_run0 [(155,pB true),(158,pN G.vals.length),(160,pI q.count)] (.range 43) rfl rfl rfl rfl (s_neq rfl rfl ⟨rfl,rfl,rfl⟩) (xy [(144,pB (!decide (((G.bits.length : Nat) : Int) = q.count))),(155,pB true),(161,pB (!decide (((G.vals.length : Nat) : Int) = q.count)))] (.range 44) rfl rfl rfl rfl g8 ?_)))))
         refine x_run0 [(144,pB (!decide (((G.bits.length : Nat) : Int) = q.count))),(155,pB true),(161,pB (!decide (((G.vals.length : Nat) : Int) = q.count)))] (.range 44) rfl rfl rfl rfl (s_pick_t rfl rfl rfl ⟨rfl,rfl,rfl⟩) (xy [(133,pB (decide (G.code = 0))),(144,pB (!decide (((G.bits.length : Nat) : Int) = q.count))),(162,pB (!decide (((G.vals.length : Nat) : Int) = q.count)))] (.range 45) rfl rfl rfl rfl g6 (x_run0 [(133,pB (decide (G.code = 0))),(144,pB (!decide (((G.bits.length : Nat) : Int) = q.count))),(162,pB (!decide (((G.vals.length : Nat) : Int) = q.count)))] (.range 45) rfl rfl rfl rfl (s_pick_f rfl g8 rfl ⟨rfl,rfl,rfl⟩) (xy [(129,pB (!decide (layR G = b))),(133,pB (decide (G.code = 0))),(163,pB (!decide (((G.vals.length : Nat) : Int) = q.count)))] (.range 46) rfl rfl rfl rfl g5 (x_run0 [(129,pB (!decide (layR G = b))),(133,pB (decide (G.code = 0))),(163,pB (!decide (((G.vals.length : Nat) : Int) = q.count)))] (.range 46) rfl rfl rfl rfl (s_pick_t rfl g6 rfl ⟨rfl,rfl,rfl⟩) (d_op ?_)))))
         refine x_run0 [(129,pB (!decide (layR G = b))),(164,pB (!decide (((G.vals.length : Nat) : Int) = q.count)))] (.range 47) rfl rfl rfl rfl (s_pick_f rfl g5 rfl ⟨rfl,rfl,rfl⟩) (d_end ⟨by kernel_rfl, ?_⟩)
         refine q_then (w_if rfl (fun c18 => ?_) (fun c18 => ?_))
         ·have c18_ := c18
          try simp only [sB] at c18
          refine w_seq (w_R (qo hnt rfl (s_build tab_53 rfl rfl (b_nil ?_))))
          refine qo hnt rfl (s_store_ptr tab_53 rfl rfl rfl rfl rfl (Nat.le_of_ble_eq_true rfl) ?_)
          refine qa hnt rfl rfl (r_set [(4,PV.ptr 2 0),(5,pI 12)] [(2,.obj [pI 0,pI 0,pI 0,pI 0,pI 0,pNil,pNil,p16 0,p16 0,pNil]),(3,oB false 1 enc8 (layR G)),(0,.obj (cReply G)),(1,.obj (cRequest q))] 4 ⟨rfl,rfl,trivial⟩ rfl rfl (r_end (q_then ?_)))
          have hz18 : 0 = R.1.fn ∧ 0 = R.1.code ∧ 0 = R.1.at_ ∧ 0 = R.1.count ∧ 0 = R.1.sub ∧ ([] : List Bool) = R.1.bits ∧ ([] : List UInt16) = R.1.vals ∧ 0 = R.1.and_ ∧ 0 = R.1.or_ ∧ ([] : List UInt8) = R.1.data := by and_intros <;> ((rw [hR,takeW_1 (by omega)] <;> rfl))
          refine w_leO (n := 2) (ds := cReply R.1) rfl ⟨le_of_eq (congrArg pI hz18.1),le_of_eq (congrArg pI hz18.2.1),le_of_eq (congrArg pI hz18.2.2.1),le_of_eq (congrArg pI hz18.2.2.2.1),le_of_eq (congrArg pI hz18.2.2.2.2.1),le_tr (le_nilS 1 false) (le_of_eq (congrArg (fun z => pS 1 false encBo z) hz18.2.2.2.2.2.1)),le_tr (le_nilS 1 false) (le_of_eq (congrArg (fun z => pS 1 false enc16 z) hz18.2.2.2.2.2.2.1)),le_of_eq (congrArg p16 hz18.2.2.2.2.2.2.2.1),le_of_eq (congrArg p16 hz18.2.2.2.2.2.2.2.2.1),le_tr (le_nilS 1 false) (le_of_eq (congrArg (fun z => pS 1 false enc8 z) hz18.2.2.2.2.2.2.2.2.2)),trivial⟩ (w_le (s := 5) (y := pI R.2) rfl (le_of_eq (congrArg pI (show 12 = R.2 by (rw [hR,takeW_3 (by omega) hb0 hask hG (fun x y z => by first|contradiction|(exfalso; have hh := head_b hb0 x y; rw [if_neg (by omega)] at hh; have z2 := z (by omega); have z3 := good_ge x (by omega); omega))] <;> rfl)))) (w_ret (q_then_ret ?_)))
          exact fin_plain (ret_cell tab_53 (by decide) rfl rfl (Nat.le_of_ble_eq_true rfl) rfl (ret_tmp rfl ret_nil)) rfl rfl ⟨rfl,rfl,rfl⟩
         have c18_ := c18
         try simp only [sB] at c18
         refine w_skip (q_then (w_seq (w_R (qo hnt rfl (s_load_ptr tab_53 rfl rfl rfl (Nat.le_of_ble_eq_true rfl) ?_)))))
         refine qo hnt rfl (s_store_ptr tab_53 rfl rfl rfl rfl rfl (Nat.le_of_ble_eq_true rfl) ?_)
         refine qa hnt rfl rfl (r_set [(4,PV.ptr 2 0),(5,pI 0)] [(2,.obj (cReply G)),(3,oB false 1 enc8 (layR G)),(0,.obj (cReply G)),(1,.obj (cRequest q))] 4 ⟨rfl,rfl,trivial⟩ rfl rfl (r_end (q_then ?_)))
         have hz19 : G.fn = R.1.fn ∧ G.code = R.1.code ∧ G.at_ = R.1.at_ ∧ G.count = R.1.count ∧ G.sub = R.1.sub ∧ G.bits = R.1.bits ∧ G.vals = R.1.vals ∧ G.and_ = R.1.and_ ∧ G.or_ = R.1.or_ ∧ G.data = R.1.data := by and_intros <;> ((rw [hR,takeW_4 (by omega) hb0 hask hG (by assumption) (by assumption) (fun h0 => by have hh := head_b hb0 (by assumption) (by assumption); rw [if_neg (by omega)] at hh; constructor <;> intro h <;> omega)] <;> rfl))
         refine w_leO (n := 2) (ds := cReply R.1) rfl ⟨le_of_eq (congrArg pI hz19.1),le_of_eq (congrArg pI hz19.2.1),le_of_eq (congrArg pI hz19.2.2.1),le_of_eq (congrArg pI hz19.2.2.2.1),le_of_eq (congrArg pI hz19.2.2.2.2.1),le_of_eq (congrArg (fun z => pS 1 false encBo z) hz19.2.2.2.2.2.1),le_of_eq (congrArg (fun z => pS 1 false enc16 z) hz19.2.2.2.2.2.2.1),le_of_eq (congrArg p16 hz19.2.2.2.2.2.2.2.1),le_of_eq (congrArg p16 hz19.2.2.2.2.2.2.2.2.1),le_of_eq (congrArg (fun z => pS 1 false enc8 z) hz19.2.2.2.2.2.2.2.2.2),trivial⟩ (w_le (s := 5) (y := pI R.2) rfl (le_of_eq (congrArg pI (show 0 = R.2 by (rw [hR,takeW_4 (by omega) hb0 hask hG (by assumption) (by assumption) (fun h0 => by have hh := head_b hb0 (by assumption) (by assumption); rw [if_neg (by omega)] at hh; constructor <;> intro h <;> omega)] <;> rfl)))) (w_ret ?_))
         exact fin_plain (ret_cell tab_53 (by decide) rfl rfl (Nat.le_of_ble_eq_true rfl) rfl (ret_tmp rfl ret_nil)) rfl rfl ⟨rfl,rfl,rfl⟩
        have g8' := g8
        try simp only [sB] at g8'
        refine xn [(144,pB (!decide (((G.bits.length : Nat) : Int) = q.count))),(145,undefP)] (.range 28) rfl rfl rfl rfl g8 (xn [(144,pB (!decide (((G.bits.length : Nat) : Int) = q.count))),(146,undefP)] (.range 29) rfl rfl rfl rfl g8 (x_undef [(147,undefP),(6,pN (UInt8.toNat e1))] (.range 30) rfl rfl rfl rfl (x_undef [(147,undefP),(148,undefP)] (.range 31) rfl rfl rfl rfl (xn [(144,pB (!decide (((G.bits.length : Nat) : Int) = q.count))),(147,undefP),(149,undefP)] (.range 32) rfl rfl rfl rfl g8 (xn [(144,pB (!decide (((G.bits.length : Nat) : Int) = q.count))),(150,undefP)] (.range 33) rfl rfl rfl rfl g8 ?_)))))
        refine x_undef [(151,undefP),(6,pN (UInt8.toNat e1))] (.range 34) rfl rfl rfl rfl (x_undef [(151,undefP),(152,undefP)] (.range 35) rfl rfl rfl rfl (xn [(144,pB (!decide (((G.bits.length : Nat) : Int) = q.count))),(151,undefP),(153,undefP)] (.range 36) rfl rfl rfl rfl g8 (xn [(144,pB (!decide (((G.bits.length : Nat) : Int) = q.count))),(154,undefP)] (.range 37) rfl rfl rfl rfl g8 (x_undef [(155,undefP),(7,PV.ptr 0 0)] (.range 38) rfl rfl rfl rfl (x_undef [(155,undefP),(156,undefP)] (.range 39) rfl rfl rfl rfl ?_)))))
        refine x_undef [(155,undefP),(157,undefP)] (.range 40) rfl rfl rfl rfl (x_undef [(155,undefP),(3,PV.ptr 1 0)] (.range 38) rfl rfl rfl rfl (x_undef [(155,undefP),(159,undefP)] (.range 38 ++ [41]) rfl rfl rfl rfl (x_undef [(155,undefP),(158,undefP),(160,undefP)] (.range 43) rfl rfl rfl rfl (xn [(144,pB (!decide (((G.bits.length : Nat) : Int) = q.count))),(155,undefP),(161,undefP)] (.range 44) rfl rfl rfl rfl g8 (xy [(133,pB (decide (G.code = 0))),(144,pB (!decide (((G.bits.length : Nat) : Int) = q.count))),(162,undefP)] (.range 45) rfl rfl rfl rfl g6 ?_)))))
        refine x_run0 [(133,pB (decide (G.code = 0))),(144,pB (!decide (((G.bits.length : Nat) : Int) = q.count))),(162,undefP)] (.range 45) rfl rfl rfl rfl (s_pick_t rfl g8 rfl ⟨rfl,rfl,rfl⟩) (xy [(129,pB (!decide (layR G = b))),(133,pB (decide (G.code = 0))),(163,pB true)] (.range 46) rfl rfl rfl rfl g5 (x_run0 [(129,pB (!decide (layR G = b))),(133,pB (decide (G.code = 0))),(163,pB true)] (.range 46) rfl rfl rfl rfl (s_pick_t rfl g6 rfl ⟨rfl,rfl,rfl⟩) (d_op (x_run0 [(129,pB (!decide (layR G = b))),(164,pB true)] (.range 47) rfl rfl rfl rfl (s_pick_f rfl g5 rfl ⟨rfl,rfl,rfl⟩) (d_end ⟨by kernel_rfl, ?_⟩)))))
        refine q_then (w_if rfl (fun _ => ?_) (fun e => absurd e (by decide)))
        refine w_seq (w_R (qo hnt rfl (s_build tab_53 rfl rfl (b_nil ?_))))
        refine qo hnt rfl (s_store_ptr tab_53 rfl rfl rfl rfl rfl (Nat.le_of_ble_eq_true rfl) ?_)
        refine qa hnt rfl rfl (r_set [(4,PV.ptr 2 0),(5,pI 12)] [(2,.obj [pI 0,pI 0,pI 0,pI 0,pI 0,pNil,pNil,p16 0,p16 0,pNil]),(3,oB false 1 enc8 (layR G)),(0,.obj (cReply G)),(1,.obj (cRequest q))] 4 ⟨rfl,rfl,trivial⟩ rfl rfl (r_end (q_then ?_)))
        have hz20 : 0 = R.1.fn ∧ 0 = R.1.code ∧ 0 = R.1.at_ ∧ 0 = R.1.count ∧ 0 = R.1.sub ∧ ([] : List Bool) = R.1.bits ∧ ([] : List UInt16) = R.1.vals ∧ 0 = R.1.and_ ∧ 0 = R.1.or_ ∧ ([] : List UInt8) = R.1.data := by and_intros <;> ((rw [hR,takeW_3 (by omega) hb0 hask hG (fun x y z => by first|contradiction|(exfalso; have hh := head_b hb0 x y; rw [if_neg (by omega)] at hh; have z2 := z (by omega); have z3 := good_ge x (by omega); omega))] <;> rfl))
        refine w_leO (n := 2) (ds := cReply R.1) rfl ⟨le_of_eq (congrArg pI hz20.1),le_of_eq (congrArg pI hz20.2.1),le_of_eq (congrArg pI hz20.2.2.1),le_of_eq (congrArg pI hz20.2.2.2.1),le_of_eq (congrArg pI hz20.2.2.2.2.1),le_tr (le_nilS 1 false) (le_of_eq (congrArg (fun z => pS 1 false encBo z) hz20.2.2.2.2.2.1)),le_tr (le_nilS 1 false) (le_of_eq (congrArg (fun z => pS 1 false enc16 z) hz20.2.2.2.2.2.2.1)),le_of_eq (congrArg p16 hz20.2.2.2.2.2.2.2.1),le_of_eq (congrArg p16 hz20.2.2.2.2.2.2.2.2.1),le_tr (le_nilS 1 false) (le_of_eq (congrArg (fun z => pS 1 false enc8 z) hz20.2.2.2.2.2.2.2.2.2)),trivial⟩ (w_le (s := 5) (y := pI R.2) rfl (le_of_eq (congrArg pI (show 12 = R.2 by (rw [hR,takeW_3 (by omega) hb0 hask hG (fun x y z => by first|contradiction|(exfalso; have hh := head_b hb0 x y; rw [if_neg (by omega)] at hh; have z2 := z (by omega); have z3 := good_ge x (by omega); omega))] <;> rfl)))) (w_ret (q_then_ret ?_)))
        exact fin_plain (ret_cell tab_53 (by decide) rfl rfl (Nat.le_of_ble_eq_true rfl) rfl (ret_tmp rfl ret_nil)) rfl rfl ⟨rfl,rfl,rfl⟩
       have g7' := g7
       try simp only [sB] at g7'
       refine xn [(136,pB (decide (((UInt8.toNat e1 : Nat) : Int) ≤ 2))),(137,undefP)] (.range 20) rfl rfl rfl rfl g7 (xn [(136,pB (decide (((UInt8.toNat e1 : Nat) : Int) ≤ 2))),(138,undefP)] (.range 21) rfl rfl rfl rfl g7 (xn [(136,pB (decide (((UInt8.toNat e1 : Nat) : Int) ≤ 2))),(3,PV.ptr 1 0)] (.range 19) rfl rfl rfl rfl g7 (xn [(136,pB (decide (((UInt8.toNat e1 : Nat) : Int) ≤ 2))),(140,undefP)] (.range 19 ++ [22]) rfl rfl rfl rfl g7 (xn [(136,pB (decide (((UInt8.toNat e1 : Nat) : Int) ≤ 2))),(139,undefP),(141,undefP)] (.range 24) rfl rfl rfl rfl g7 (xy [(133,pB (decide (G.code = 0))),(136,pB (decide (((UInt8.toNat e1 : Nat) : Int) ≤ 2))),(142,undefP)] (.range 25) rfl rfl rfl rfl g6 ?_)))))
       refine x_run0 [(133,pB (decide (G.code = 0))),(136,pB (decide (((UInt8.toNat e1 : Nat) : Int) ≤ 2))),(142,undefP)] (.range 25) rfl rfl rfl rfl (s_pick_f rfl g7 rfl ⟨rfl,rfl,rfl⟩) (xy [(133,pB (decide (G.code = 0))),(143,pB false)] (.range 26) rfl rfl rfl rfl g6 (x_run0 [(133,pB (decide (G.code = 0))),(143,pB false)] (.range 26) rfl rfl rfl rfl (s_move rfl ⟨rfl,rfl,rfl⟩) (xy [(144,pB false),(6,pN (UInt8.toNat e1))] (.range 27) rfl rfl rfl rfl rfl (x_run0 [(144,pB false),(6,pN (UInt8.toNat e1))] (.range 27) rfl rfl rfl rfl (s_move rfl ⟨rfl,rfl,rfl⟩) (xy [(144,pB false),(145,pN (UInt8.toNat e1))] (.range 28) rfl rfl rfl rfl rfl ?_)))))
       refine x_run0 [(144,pB false),(145,pN (UInt8.toNat e1))] (.range 28) rfl rfl rfl rfl (s_eql rfl rfl ⟨rfl,rfl,rfl⟩) (xy [(144,pB false),(146,pB (decide (((UInt8.toNat e1 : Nat) : Int) = 3)))] (.range 29) rfl rfl rfl rfl rfl (x_run0 [(144,pB false),(146,pB (decide (((UInt8.toNat e1 : Nat) : Int) = 3)))] (.range 29) rfl rfl rfl rfl (s_move rfl ⟨rfl,rfl,rfl⟩) (x_if [(147,pB (decide (((UInt8.toNat e1 : Nat) : Int) = 3))),(6,pN (UInt8.toNat e1))] (.range 30) rfl rfl rfl rfl (fun g12 => ?_) (fun g12 => ?_))))
       ·have g12' := g12
        try simp only [sB] at g12'
        refine x_run0 [(147,pB (decide (((UInt8.toNat e1 : Nat) : Int) = 3))),(6,pN (UInt8.toNat e1))] (.range 30) rfl rfl rfl rfl (s_move rfl ⟨rfl,rfl,rfl⟩) (xy [(147,pB (decide (((UInt8.toNat e1 : Nat) : Int) = 3))),(148,pN (UInt8.toNat e1))] (.range 31) rfl rfl rfl rfl g12 (x_run0 [(147,pB (decide (((UInt8.toNat e1 : Nat) : Int) = 3))),(148,pN (UInt8.toNat e1))] (.range 31) rfl rfl rfl rfl (s_eql rfl rfl ⟨rfl,rfl,rfl⟩) (xy [(144,pB false),(147,pB (decide (((UInt8.toNat e1 : Nat) : Int) = 3))),(149,pB (decide (((UInt8.toNat e1 : Nat) : Int) = 4)))] (.range 32) rfl rfl rfl rfl rfl (x_run0 [(144,pB false),(147,pB (decide (((UInt8.toNat e1 : Nat) : Int) = 3))),(149,pB (decide (((UInt8.toNat e1 : Nat) : Int) = 4)))] (.range 32) rfl rfl rfl rfl (s_pick_f rfl g12 rfl ⟨rfl,rfl,rfl⟩) (xy [(144,pB false),(150,pB (decide (((UInt8.toNat e1 : Nat) : Int) = 4)))] (.range 33) rfl rfl rfl rfl rfl ?_)))))
        refine x_run0 [(144,pB false),(150,pB (decide (((UInt8.toNat e1 : Nat) : Int) = 4)))] (.range 33) rfl rfl rfl rfl (s_move rfl ⟨rfl,rfl,rfl⟩) (x_if [(151,pB (decide (((UInt8.toNat e1 : Nat) : Int) = 4))),(6,pN (UInt8.toNat e1))] (.range 34) rfl rfl rfl rfl (fun g13 => ?_) (fun g13 => ?_))
        ·have g13' := g13
         try simp only [sB] at g13'
         refine x_run0 [(151,pB (decide (((UInt8.toNat e1 : Nat) : Int) = 4))),(6,pN (UInt8.toNat e1))] (.range 34) rfl rfl rfl rfl (s_move rfl ⟨rfl,rfl,rfl⟩) (xy [(151,pB (decide (((UInt8.toNat e1 : Nat) : Int) = 4))),(152,pN (UInt8.toNat e1))] (.range 35) rfl rfl rfl rfl g13 (x_run0 [(151,pB (decide (((UInt8.toNat e1 : Nat) : Int) = 4))),(152,pN (UInt8.toNat e1))] (.range 35) rfl rfl rfl rfl (s_eql rfl rfl ⟨rfl,rfl,rfl⟩) (xy [(144,pB false),(151,pB (decide (((UInt8.toNat e1 : Nat) : Int) = 4))),(153,pB (decide (((UInt8.toNat e1 : Nat) : Int) = 23)))] (.range 36) rfl rfl rfl rfl rfl (x_run0 [(144,pB false),(151,pB (decide (((UInt8.toNat e1 : Nat) : Int) = 4))),(153,pB (decide (((UInt8.toNat e1 : Nat) : Int) = 23)))] (.range 36) rfl rfl rfl rfl (s_pick_f rfl g13 rfl ⟨rfl,rfl,rfl⟩) (xy [(144,pB false),(154,pB (decide (((UInt8.toNat e1 : Nat) : Int) = 23)))] (.range 37) rfl rfl rfl rfl rfl ?_)))))
         refine x_run0 [(144,pB false),(154,pB (decide (((UInt8.toNat e1 : Nat) : Int) = 23)))] (.range 37) rfl rfl rfl rfl (s_move rfl ⟨rfl,rfl,rfl⟩) (x_if [(155,pB (decide (((UInt8.toNat e1 : Nat) : Int) = 23))),(7,PV.ptr 0 0)] (.range 38) rfl rfl rfl rfl (fun g14 => ?_) (fun g14 => ?_))
         ·have g14' := g14
          try simp only [sB] at g14'
          refine x_run0 [(155,pB (decide (((UInt8.toNat e1 : Nat) : Int) = 23))),(7,PV.ptr 0 0)] (.range 38) rfl rfl rfl rfl (s_fa_ptr tab_53 rfl rfl tab_43 (by decide) rfl ⟨rfl,rfl,rfl⟩) (xy [(155,pB (decide (((UInt8.toNat e1 : Nat) : Int) = 23))),(156,PV.ptr 0 6)] (.range 39) rfl rfl rfl rfl g14 (xL [(155,pB (decide (((UInt8.toNat e1 : Nat) : Int) = 23))),(156,PV.ptr 0 6)] (.range 39) [(0,.obj (cReply G))] rfl rfl rfl rfl rfl (s_load_ptr1 tab_43 rfl rfl rfl rfl rfl ⟨rfl,rfl,rfl⟩) ⟨rfl,trivial⟩ rfl (xy [(155,pB (decide (((UInt8.toNat e1 : Nat) : Int) = 23))),(157,pS 1 false enc16 G.vals)] (.range 40) rfl rfl rfl rfl g14 (x_run0 [(155,pB (decide (((UInt8.toNat e1 : Nat) : Int) = 23))),(157,pS 1 false enc16 G.vals)] (.range 40) rfl rfl rfl rfl (s_lenM (l := G.vals) tab_43 rfl (hM_sl (f := enc16) rfl) ⟨rfl,rfl,rfl⟩) (xy [(155,pB (decide (((UInt8.toNat e1 : Nat) : Int) = 23))),(3,PV.ptr 1 0)] (.range 38) rfl rfl rfl rfl g14 ?_)))))
          refine x_run0 [(155,pB (decide (((UInt8.toNat e1 : Nat) : Int) = 23))),(3,PV.ptr 1 0)] (.range 38) rfl rfl rfl rfl (s_fa_ptr tab_46 rfl rfl tab_3 (by decide) rfl ⟨rfl,rfl,rfl⟩) (xy [(155,pB (decide (((UInt8.toNat e1 : Nat) : Int) = 23))),(159,PV.ptr 1 2)] (.range 38 ++ [41]) rfl rfl rfl rfl g14 (xL [(155,pB (decide (((UInt8.toNat e1 : Nat) : Int) = 23))),(159,PV.ptr 1 2)] (.range 38 ++ [41]) [(1,.obj (cRequest q))] rfl rfl rfl rfl rfl (s_load_ptr1 tab_3 rfl rfl rfl rfl rfl ⟨rfl,rfl,rfl⟩) ⟨rfl,trivial⟩ rfl (xy [(155,pB (decide (((UInt8.toNat e1 : Nat) : Int) = 23))),(158,pN G.vals.length),(160,pI q.count)] (.range 43) rfl rfl rfl rfl g14 (x_run0 [(155,pB (decide (((UInt8.toNat e1 : Nat) : Int) = 23))),(158,pN G.vals.length),(160,pI q.count)] (.range 43) rfl rfl rfl rfl (s_neq rfl rfl ⟨rfl,rfl,rfl⟩) (xy [(144,pB false),(155,pB (decide (((UInt8.toNat e1 : Nat) : Int) = 23))),(161,pB (!decide (((G.vals.length : Nat) : Int) = q.count)))] (.range 44) rfl rfl rfl rfl rfl ?_)))))
          refine x_run0 [(144,pB false),(155,pB (decide (((UInt8.toNat e1 : Nat) : Int) = 23))),(161,pB (!decide (((G.vals.length : Nat) : Int) = q.count)))] (.range 44) rfl rfl rfl rfl (s_pick_t rfl g14 rfl ⟨rfl,rfl,rfl⟩) (xy [(133,pB (decide (G.code = 0))),(144,pB false),(162,pB (!decide (((G.vals.length : Nat) : Int) = q.count)))] (.range 45) rfl rfl rfl rfl g6 (x_run0 [(133,pB (decide (G.code = 0))),(144,pB false),(162,pB (!decide (((G.vals.length : Nat) : Int) = q.count)))] (.range 45) rfl rfl rfl rfl (s_pick_f rfl rfl rfl ⟨rfl,rfl,rfl⟩) (xy [(129,pB (!decide (layR G = b))),(133,pB (decide (G.code = 0))),(163,pB (!decide (((G.vals.length : Nat) : Int) = q.count)))] (.range 46) rfl rfl rfl rfl g5 (x_run0 [(129,pB (!decide (layR G = b))),(133,pB (decide (G.code = 0))),(163,pB (!decide (((G.vals.length : Nat) : Int) = q.count)))] (.range 46) rfl rfl rfl rfl (s_pick_t rfl g6 rfl ⟨rfl,rfl,rfl⟩) (d_op ?_)))))
          refine x_run0 [(129,pB (!decide (layR G = b))),(164,pB (!decide (((G.vals.length : Nat) : Int) = q.count)))] (.range 47) rfl rfl rfl rfl (s_pick_f rfl g5 rfl ⟨rfl,rfl,rfl⟩) (d_end ⟨by kernel_rfl, ?_⟩)
          refine q_then (w_if rfl (fun c19 => ?_) (fun c19 => ?_))
          ·have c19_ := c19
           try simp only [sB] at c19
           refine w_seq (w_R (qo hnt rfl (s_build tab_53 rfl rfl (b_nil ?_))))
           refine qo hnt rfl (s_store_ptr tab_53 rfl rfl rfl rfl rfl (Nat.le_of_ble_eq_true rfl) ?_)
           refine qa hnt rfl rfl (r_set [(4,PV.ptr 2 0),(5,pI 12)] [(2,.obj [pI 0,pI 0,pI 0,pI 0,pI 0,pNil,pNil,p16 0,p16 0,pNil]),(3,oB false 1 enc8 (layR G)),(0,.obj (cReply G)),(1,.obj (cRequest q))] 4 ⟨rfl,rfl,trivial⟩ rfl rfl (r_end (q_then ?_)))
           have hz21 : 0 = R.1.fn ∧ 0 = R.1.code ∧ 0 = R.1.at_ ∧ 0 = R.1.count ∧ 0 = R.1.sub ∧ ([] : List Bool) = R.1.bits ∧ ([] : List UInt16) = R.1.vals ∧ 0 = R.1.and_ ∧ 0 = R.1.or_ ∧ ([] : List UInt8) = R.1.data := by and_intros <;> ((rw [hR,takeW_3 (by omega) hb0 hask hG (fun x y z => by first|contradiction|(exfalso; have hh := head_b hb0 x y; rw [if_neg (by omega)] at hh; have z2 := z (by omega); have z3 := good_ge x (by omega); omega))] <;> rfl))
           refine w_leO (n := 2) (ds := cReply R.1) rfl ⟨le_of_eq (congrArg pI hz21.1),le_of_eq (congrArg pI hz21.2.1),le_of_eq (congrArg pI hz21.2.2.1),le_of_eq (congrArg pI hz21.2.2.2.1),le_of_eq (congrArg pI hz21.2.2.2.2.1),le_tr (le_nilS 1 false) (le_of_eq (congrArg (fun z => pS 1 false encBo z) hz21.2.2.2.2.2.1)),le_tr (le_nilS 1 false) (le_of_eq (congrArg (fun z => pS 1 false enc16 z) hz21.2.2.2.2.2.2.1)),le_of_eq (congrArg p16 hz21.2.2.2.2.2.2.2.1),le_of_eq (congrArg p16 hz21.2.2.2.2.2.2.2.2.1),le_tr (le_nilS 1 false) (le_of_eq (congrArg (fun z => pS 1 false enc8 z) hz21.2.2.2.2.2.2.2.2.2)),trivial⟩ (w_le (s := 5) (y := pI R.2) rfl (le_of_eq (congrArg pI (show 12 = R.2 by (rw [hR,takeW_3 (by omega) hb0 hask hG (fun x y z => by first|contradiction|(exfalso; have hh := head_b hb0 x y; rw [if_neg (by omega)] at hh; have z2 := z (by omega); have z3 := good_ge x (by omega); omega))] <;> rfl)))) (w_ret (q_then_ret ?_)))
           exact fin_plain (ret_cell tab_53 (by decide) rfl rfl (Nat.le_of_ble_eq_true rfl) rfl (ret_tmp rfl ret_nil)) rfl rfl ⟨rfl,rfl,rfl⟩
          have c19_ := c19
          try simp only [sB] at c19
          refine w_skip (q_then (w_seq (w_R (qo hnt rfl (s_load_ptr tab_53 rfl rfl rfl (Nat.le_of_ble_eq_true rfl) ?_)))))
          refine qo hnt rfl (s_store_ptr tab_53 rfl rfl rfl rfl rfl (Nat.le_of_ble_eq_true rfl) ?_)
          refine qa hnt rfl rfl (r_set [(4,PV.ptr 2 0),(5,pI 0)] [(2,.obj (cReply G)),(3,oB false 1 enc8 (layR G)),(0,.obj (cReply G)),(1,.obj (cRequest q))] 4 ⟨rfl,rfl,trivial⟩ rfl rfl (r_end (q_then ?_)))
          have hz22 : G.fn = R.1.fn ∧ G.code = R.1.code ∧ G.at_ = R.1.at_ ∧ G.count = R.1.count ∧ G.sub = R.1.sub ∧ G.bits = R.1.bits ∧ G.vals = R.1.vals ∧ G.and_ = R.1.and_ ∧ G.or_ = R.1.or_ ∧ G.data = R.1.data := by and_intros <;> ((rw [hR,takeW_4 (by omega) hb0 hask hG (by assumption) (by assumption) (fun h0 => by have hh := head_b hb0 (by assumption) (by assumption); rw [if_neg (by omega)] at hh; constructor <;> intro h <;> omega)] <;> rfl))
          refine w_leO (n := 2) (ds := cReply R.1) rfl ⟨le_of_eq (congrArg pI hz22.1),le_of_eq (congrArg pI hz22.2.1),le_of_eq (congrArg pI hz22.2.2.1),le_of_eq (congrArg pI hz22.2.2.2.1),le_of_eq (congrArg pI hz22.2.2.2.2.1),le_of_eq (congrArg (fun z => pS 1 false encBo z) hz22.2.2.2.2.2.1),le_of_eq (congrArg (fun z => pS 1 false enc16 z) hz22.2.2.2.2.2.2.1),le_of_eq (congrArg p16 hz22.2.2.2.2.2.2.2.1),le_of_eq (congrArg p16 hz22.2.2.2.2.2.2.2.2.1),le_of_eq (congrArg (fun z => pS 1 false enc8 z) hz22.2.2.2.2.2.2.2.2.2),trivial⟩ (w_le (s := 5) (y := pI R.2) rfl (le_of_eq (congrArg pI (show 0 = R.2 by (rw [hR,takeW_4 (by omega) hb0 hask hG (by assumption) (by assumption) (fun h0 => by have hh := head_b hb0 (by assumption) (by assumption); rw [if_neg (by omega)] at hh; constructor <;> intro h <;> omega)] <;> rfl)))) (w_ret ?_))
          exact fin_plain (ret_cell tab_53 (by decide) rfl rfl (Nat.le_of_ble_eq_true rfl) rfl (ret_tmp rfl ret_nil)) rfl rfl ⟨rfl,rfl,rfl⟩
         have g14' := g14
         try simp only [sB] at g14'
         refine xn [(155,pB (decide (((UInt8.toNat e1 : Nat) : Int) = 23))),(156,undefP)] (.range 39) rfl rfl rfl rfl g14 (xn [(155,pB (decide (((UInt8.toNat e1 : Nat) : Int) = 23))),(157,undefP)] (.range 40) rfl rfl rfl rfl g14 (xn [(155,pB (decide (((UInt8.toNat e1 : Nat) : Int) = 23))),(3,PV.ptr 1 0)] (.range 38) rfl rfl rfl rfl g14 (xn [(155,pB (decide (((UInt8.toNat e1 : Nat) : Int) = 23))),(159,undefP)] (.range 38 ++ [41]) rfl rfl rfl rfl g14 (xn [(155,pB (decide (((UInt8.toNat e1 : Nat) : Int) = 23))),(158,undefP),(160,undefP)] (.range 43) rfl rfl rfl rfl g14 (xy [(144,pB false),(155,pB (decide (((UInt8.toNat e1 : Nat) : Int) = 23))),(161,undefP)] (.range 44) rfl rfl rfl rfl rfl ?_)))))
         refine x_run0 [(144,pB false),(155,pB (decide (((UInt8.toNat e1 : Nat) : Int) = 23))),(161,undefP)] (.range 44) rfl rfl rfl rfl (s_pick_f rfl g14 rfl ⟨rfl,rfl,rfl⟩) (xy [(133,pB (decide (G.code = 0))),(144,pB false),(162,pB false)] (.range 45) rfl rfl rfl rfl g6 (x_run0 [(133,pB (decide (G.code = 0))),(144,pB false),(162,pB false)] (.range 45) rfl rfl rfl rfl (s_pick_f rfl rfl rfl ⟨rfl,rfl,rfl⟩) (xy [(129,pB (!decide (layR G = b))),(133,pB (decide (G.code = 0))),(163,pB false)] (.range 46) rfl rfl rfl rfl g5 (x_run0 [(129,pB (!decide (layR G = b))),(133,pB (decide (G.code = 0))),(163,pB false)] (.range 46) rfl rfl rfl rfl (s_pick_t rfl g6 rfl ⟨rfl,rfl,rfl⟩) (d_op ?_)))))
         refine x_run0 [(129,pB (!decide (layR G = b))),(164,pB false)] (.range 47) rfl rfl rfl rfl (s_pick_f rfl g5 rfl ⟨rfl,rfl,rfl⟩) (d_end ⟨by kernel_rfl, ?_⟩)
         refine q_then (w_if rfl (fun e => absurd e (by decide)) (fun _ => ?_))
         refine w_skip (q_then (w_seq (w_R (qo hnt rfl (s_load_ptr tab_53 rfl rfl rfl (Nat.le_of_ble_eq_true rfl) ?_)))))
         refine qo hnt rfl (s_store_ptr tab_53 rfl rfl rfl rfl rfl (Nat.le_of_ble_eq_true rfl) ?_)
         refine qa hnt rfl rfl (r_set [(4,PV.ptr 2 0),(5,pI 0)] [(2,.obj (cReply G)),(3,oB false 1 enc8 (layR G)),(0,.obj (cReply G)),(1,.obj (cRequest q))] 4 ⟨rfl,rfl,trivial⟩ rfl rfl (r_end (q_then ?_)))
         have hz23 : G.fn = R.1.fn ∧ G.code = R.1.code ∧ G.at_ = R.1.at_ ∧ G.count = R.1.count ∧ G.sub = R.1.sub ∧ G.bits = R.1.bits ∧ G.vals = R.1.vals ∧ G.and_ = R.1.and_ ∧ G.or_ = R.1.or_ ∧ G.data = R.1.data := by and_intros <;> ((rw [hR,takeW_4 (by omega) hb0 hask hG (by assumption) (by assumption) (fun h0 => by have hh := head_b hb0 (by assumption) (by assumption); rw [if_neg (by omega)] at hh; constructor <;> intro h <;> omega)] <;> rfl))
         refine w_leO (n := 2) (ds := cReply R.1) rfl ⟨le_of_eq (congrArg pI hz23.1),le_of_eq (congrArg pI hz23.2.1),le_of_eq (congrArg pI hz23.2.2.1),le_of_eq (congrArg pI hz23.2.2.2.1),le_of_eq (congrArg pI hz23.2.2.2.2.1),le_of_eq (congrArg (fun z => pS 1 false encBo z) hz23.2.2.2.2.2.1),le_of_eq (congrArg (fun z => pS 1 false enc16 z) hz23.2.2.2.2.2.2.1),le_of_eq (congrArg p16 hz23.2.2.2.2.2.2.2.1),le_of_eq (congrArg p16 hz23.2.2.2.2.2.2.2.2.1),le_of_eq (congrArg (fun z => pS 1 false enc8 z) hz23.2.2.2.2.2.2.2.2.2),trivial⟩ (w_le (s := 5) (y := pI R.2) rfl (le_of_eq (congrArg pI (show 0 = R.2 by (rw [hR,takeW_4 (by omega) hb0 hask hG (by assumption) (by assumption) (fun h0 => by have hh := head_b hb0 (by assumption) (by assumption); rw [if_neg (by omega)] at hh; constructor <;> intro h <;> omega)] <;> rfl)))) (w_ret ?_))
         exact fin_plain (ret_cell tab_53 (by decide) rfl rfl (Nat.le_of_ble_eq_true rfl) rfl (ret_tmp rfl ret_nil)) rfl rfl ⟨rfl,rfl,rfl⟩
        have g13' := g13
        try simp only [sB] at g13'
        refine xn [(151,pB (decide (((UInt8.toNat e1 : Nat) : Int) = 4))),(152,undefP)] (.range 35) rfl rfl rfl rfl g13 (xy [(144,pB false),(151,pB (decide (((UInt8.toNat e1 : Nat) : Int) = 4))),(153,undefP)] (.range 36) rfl rfl rfl rfl rfl (x_run0 [(144,pB false),(151,pB (decide (((UInt8.toNat e1 : Nat) : Int) = 4))),(153,undefP)] (.range 36) rfl rfl rfl rfl (s_pick_t rfl g13 rfl ⟨rfl,rfl,rfl⟩) (xy [(144,pB false),(154,pB true)] (.range 37) rfl rfl rfl rfl rfl (x_run0 [(144,pB false),(154,pB true)] (.range 37) rfl rfl rfl rfl (s_move rfl ⟨rfl,rfl,rfl⟩) (xy [(155,pB true),(7,PV.ptr 0 0)] (.range 38) rfl rfl rfl rfl rfl ?_)))))
        refine x_run0 [(155,pB true),(7,PV.ptr 0 0)] (.range 38) rfl rfl rfl rfl (s_fa_ptr tab_53 rfl rfl tab_43 (by decide) rfl ⟨rfl,rfl,rfl⟩) (xy [(155,pB true),(156,PV.ptr 0 6)] (.range 39) rfl rfl rfl rfl rfl (xL [(155,pB true),(156,PV.ptr 0 6)] (.range 39) [(0,.obj (cReply G))] rfl rfl rfl rfl rfl (s_load_ptr1 tab_43 rfl rfl rfl rfl rfl ⟨rfl,rfl,rfl⟩) ⟨rfl,trivial⟩ rfl (xy [(155,pB true),(157,pS 1 false enc16 G.vals)] (.range 40) rfl rfl rfl rfl rfl (x_run0 [(155,pB true),(157,pS 1 false enc16 G.vals)] (.range 40) rfl rfl rfl rfl (s_lenM (l := G.vals) tab_43 rfl (hM_sl (f := enc16) rfl) ⟨rfl,rfl,rfl⟩) (xy [(155,pB true),(3,PV.ptr 1 0)] (.range 38) rfl rfl rfl rfl rfl ?_)))))
        refine x_run0 [(155,pB true),(3,PV.ptr 1 0)] (.range 38) rfl rfl rfl rfl (s_fa_ptr tab_46 rfl rfl tab_3 (by decide) rfl ⟨rfl,rfl,rfl⟩) (xy [(155,pB true),(159,PV.ptr 1 2)] (.range 38 ++ [41]) rfl rfl rfl rfl rfl (xL [(155,pB true),(159,PV.ptr 1 2)] (.range 38 ++ [41]) [(1,.obj (cRequest q))] rfl rfl rfl rfl rfl (s_load_ptr1 tab_3 rfl rfl rfl rfl rfl ⟨rfl,rfl,rfl⟩) ⟨rfl,trivial⟩ rfl (xy [(155,pB true),(158,pN G.vals.length),(160,pI q.count)] (.range 43) rfl rfl rfl rfl rfl (x_run0 [(155,pB true),(158,pN G.vals.length),(160,pI q.count)] (.range 43) rfl rfl rfl rfl (s_neq rfl rfl ⟨rfl,rfl,rfl⟩) (xy [(144,pB false),(155,pB true),(161,pB (!decide (((G.vals.length : Nat) : Int) = q.count)))] (.range 44) rfl rfl rfl rfl rfl ?_)))))
        refine x_run0 [(144,pB false),(155,pB true),(161,pB (!decide (((G.vals.length : Nat) : Int) = q.count)))] (.range 44) rfl rfl rfl rfl (s_pick_t rfl rfl rfl ⟨rfl,rfl,rfl⟩) (xy [(133,pB (decide (G.code = 0))),(144,pB false),(162,pB (!decide (((G.vals.length : Nat) : Int) = q.count)))] (.range 45) rfl rfl rfl rfl g6 (x_run0 [(133,pB (decide (G.code = 0))),(144,pB false),(162,pB (!decide (((G.vals.length : Nat) : Int) = q.count)))] (.range 45) rfl rfl rfl rfl (s_pick_f rfl rfl rfl ⟨rfl,rfl,rfl⟩) (xy [(129,pB (!decide (layR G = b))),(133,pB (decide (G.code = 0))),(163,pB (!decide (((G.vals.length : Nat) : Int) = q.count)))] (.range 46) rfl rfl rfl rfl g5 (x_run0 [(129,pB (!decide (layR G = b))),(133,pB (decide (G.code = 0))),(163,pB (!decide (((G.vals.length : Nat) : Int) = q.count)))] (.range 46) rfl rfl rfl rfl (s_pick_t rfl g6 rfl ⟨rfl,rfl,rfl⟩) (d_op ?_)))))
        refine x_run0 [(129,pB (!decide (layR G = b))),(164,pB (!decide (((G.vals.length : Nat) : Int) = q.count)))] (.range 47) rfl rfl rfl rfl (s_pick_f rfl g5 rfl ⟨rfl,rfl,rfl⟩) (d_end ⟨by kernel_rfl, ?_⟩)
        refine q_then (w_if rfl (fun c20 => ?_) (fun c20 => ?_))
        ·have c20_ := c20
         try simp only [sB] at c20
         refine w_seq (w_R (qo hnt rfl (s_build tab_53 rfl rfl (b_nil ?_))))
         refine qo hnt rfl (s_store_ptr tab_53 rfl rfl rfl rfl rfl (Nat.le_of_ble_eq_true rfl) ?_)
         refine qa hnt rfl rfl (r_set [(4,PV.ptr 2 0),(5,pI 12)] [(2,.obj [pI 0,pI 0,pI 0,pI 0,pI 0,pNil,pNil,p16 0,p16 0,pNil]),(3,oB false 1 enc8 (layR G)),(0,.obj (cReply G)),(1,.obj (cRequest q))] 4 ⟨rfl,rfl,trivial⟩ rfl rfl (r_end (q_then ?_)))
         have hz24 : 0 = R.1.fn ∧ 0 = R.1.code ∧ 0 = R.1.at_ ∧ 0 = R.1.count ∧ 0 = R.1.sub ∧ ([] : List Bool) = R.1.bits ∧ ([] : List UInt16) = R.1.vals ∧ 0 = R.1.and_ ∧ 0 = R.1.or_ ∧ ([] : List UInt8) = R.1.data := by and_intros <;> ((rw [hR,takeW_3 (by omega) hb0 hask hG (fun x y z => by first|contradiction|(exfalso; have hh := head_b hb0 x y; rw [if_neg (by omega)] at hh; have z2 := z (by omega); have z3 := good_ge x (by omega); omega))] <;> rfl))
         refine w_leO (n := 2) (ds := cReply R.1) rfl ⟨le_of_eq (congrArg pI hz24.1),le_of_eq (congrArg pI hz24.2.1),le_of_eq (congrArg pI hz24.2.2.1),le_of_eq (congrArg pI hz24.2.2.2.1),le_of_eq (congrArg pI hz24.2.2.2.2.1),le_tr (le_nilS 1 false) (le_of_eq (congrArg (fun z => pS 1 false encBo z) hz24.2.2.2.2.2.1)),le_tr (le_nilS 1 false) (le_of_eq (congrArg (fun z => pS 1 false enc16 z) hz24.2.2.2.2.2.2.1)),le_of_eq (congrArg p16 hz24.2.2.2.2.2.2.2.1),le_of_eq (congrArg p16 hz24.2.2.2.2.2.2.2.2.1),le_tr (le_nilS 1 false) (le_of_eq (congrArg (fun z => pS 1 false enc8 z) hz24.2.2.2.2.2.2.2.2.2)),trivial⟩ (w_le (s := 5) (y := pI R.2) rfl (le_of_eq (congrArg pI (show 12 = R.2 by (rw [hR,takeW_3 (by omega) hb0 hask hG (fun x y z => by first|contradiction|(exfalso; have hh := head_b hb0 x y; rw [if_neg (by omega)] at hh; have z2 := z (by omega); have z3 := good_ge x (by omega); omega))] <;> rfl)))) (w_ret (q_then_ret ?_)))
         exact fin_plain (ret_cell tab_53 (by decide) rfl rfl (Nat.le_of_ble_eq_true rfl) rfl (ret_tmp rfl ret_nil)) rfl rfl ⟨rfl,rfl,rfl⟩
        have c20_ := c20
        try simp only [sB] at c20
        refine w_skip (q_then (w_seq (w_R (qo hnt rfl (s_load_ptr tab_53 rfl rfl rfl (Nat.le_of_ble_eq_true rfl) ?_)))))
        refine qo hnt rfl (s_store_ptr tab_53 rfl rfl rfl rfl rfl (Nat.le_of_ble_eq_true rfl) ?_)
        refine qa hnt rfl rfl (r_set [(4,PV.ptr 2 0),(5,pI 0)] [(2,.obj (cReply G)),(3,oB false 1 enc8 (layR G)),(0,.obj (cReply G)),(1,.obj (cRequest q))] 4 ⟨rfl,rfl,trivial⟩ rfl rfl (r_end (q_then ?_)))
        have hz25 : G.fn = R.1.fn ∧ G.code = R.1.code ∧ G.at_ = R.1.at_ ∧ G.count = R.1.count ∧ G.sub = R.1.sub ∧ G.bits = R.1.bits ∧ G.vals = R.1.vals ∧ G.and_ = R.1.and_ ∧ G.or_ = R.1.or_ ∧ G.data = R.1.data := by and_intros <;> ((rw [hR,takeW_4 (by omega) hb0 hask hG (by assumption) (by assumption) (fun h0 => by have hh := head_b hb0 (by assumption) (by assumption); rw [if_neg (by omega)] at hh; constructor <;> intro h <;> omega)] <;> rfl))
        refine w_leO (n := 2) (ds := cReply R.1) rfl ⟨le_of_eq (congrArg pI hz25.1),le_of_eq (congrArg pI hz25.2.1),le_of_eq (congrArg pI hz25.2.2.1),le_of_eq (congrArg pI hz25.2.2.2.1),le_of_eq (congrArg pI hz25.2.2.2.2.1),le_of_eq (congrArg (fun z => pS 1 false encBo z) hz25.2.2.2.2.2.1),le_of_eq (congrArg (fun z => pS 1 false enc16 z) hz25.2.2.2.2.2.2.1),le_of_eq (congrArg p16 hz25.2.2.2.2.2.2.2.1),le_of_eq (congrArg p16 hz25.2.2.2.2.2.2.2.2.1),le_of_eq (congrArg (fun z => pS 1 false enc8 z) hz25.2.2.2.2.2.2.2.2.2),trivial⟩ (w_le (s := 5) (y := pI R.2) rfl (le_of_eq (congrArg pI (show 0 = R.2 by (rw [hR,takeW_4 (by omega) hb0 hask hG (by assumption) (by assumption) (fun h0 => by have hh := head_b hb0 (by assumption) (by assumption); rw [if_neg (by omega)] at hh; constructor <;> intro h <;> omega)] <;> rfl)))) (w_ret ?_))
        exact fin_plain (ret_cell tab_53 (by decide) rfl rfl (Nat.le_of_ble_eq_true rfl) rfl (ret_tmp rfl ret_nil)) rfl rfl ⟨rfl,rfl,rfl⟩
       have g12' := g12
       try simp only [sB] at g12'
       refine xn [(147,pB (decide (((UInt8.toNat e1 : Nat) : Int) = 3))),(148,undefP)] (.range 31) rfl rfl rfl rfl g12 (xy [(144,pB false),(147,pB (decide (((UInt8.toNat e1 : Nat) : Int) = 3))),(149,undefP)] (.range 32) rfl rfl rfl rfl rfl (x_run0 [(144,pB false),(147,pB (decide (((UInt8.toNat e1 : Nat) : Int) = 3))),(149,undefP)] (.range 32) rfl rfl rfl rfl (s_pick_t rfl g12 rfl ⟨rfl,rfl,rfl⟩) (xy [(144,pB false),(150,pB true)] (.range 33) rfl rfl rfl rfl rfl (x_run0 [(144,pB false),(150,pB true)] (.range 33) rfl rfl rfl rfl (s_move rfl ⟨rfl,rfl,rfl⟩) (xn [(151,pB true),(6,pN (UInt8.toNat e1))] (.range 34) rfl rfl rfl rfl rfl ?_)))))
       refine xn [(151,pB true),(152,undefP)] (.range 35) rfl rfl rfl rfl rfl (xy [(144,pB false),(151,pB true),(153,undefP)] (.range 36) rfl rfl rfl rfl rfl (x_run0 [(144,pB false),(151,pB true),(153,undefP)] (.range 36) rfl rfl rfl rfl (s_pick_t rfl rfl rfl ⟨rfl,rfl,rfl⟩) (xy [(144,pB false),(154,pB true)] (.range 37) rfl rfl rfl rfl rfl (x_run0 [(144,pB false),(154,pB true)] (.range 37) rfl rfl rfl rfl (s_move rfl ⟨rfl,rfl,rfl⟩) (xy [(155,pB true),(7,PV.ptr 0 0)] (.range 38) rfl rfl rfl rfl rfl ?_)))))
       refine x_run0 [(155,pB true),(7,PV.ptr 0 0)] (.range 38) rfl rfl rfl rfl (s_fa_ptr tab_53 rfl rfl tab_43 (by decide) rfl ⟨rfl,rfl,rfl⟩) (xy [(155,pB true),(156,PV.ptr 0 6)] (.range 39) rfl rfl rfl rfl rfl (xL [(155,pB true),(156,PV.ptr 0 6)] (.range 39) [(0,.obj (cReply G))] rfl rfl rfl rfl rfl (s_load_ptr1 tab_43 rfl rfl rfl rfl rfl ⟨rfl,rfl,rfl⟩) ⟨rfl,trivial⟩ rfl (xy [(155,pB true),(157,pS 1 false enc16 G.vals)] (.range 40) rfl rfl rfl rfl rfl (x_run0 [(155,pB true),(157,pS 1 false enc16 G.vals)] (.range 40) rfl rfl rfl rfl (s_lenM (l := G.vals) tab_43 rfl (hM_sl (f := enc16) rfl) ⟨rfl,rfl,rfl⟩) (xy [(155,pB true),(3,PV.ptr 1 0)] (.range 38) rfl rfl rfl rfl rfl ?_)))))
       refine x_run0 [(155,pB true),(3,PV.ptr 1 0)] (.range 38) rfl rfl rfl rfl (s_fa_ptr tab_46 rfl rfl tab_3 (by decide) rfl ⟨rfl,rfl,rfl⟩) (xy [(155,pB true),(159,PV.ptr 1 2)] (.range 38 ++ [41]) rfl rfl rfl rfl rfl (xL [(155,pB true),(159,PV.ptr 1 2)] (.range 38 ++ [41]) [(1,.obj (cRequest q))] rfl rfl rfl rfl rfl (s_load_ptr1 tab_3 rfl rfl rfl rfl rfl ⟨rfl,rfl,rfl⟩) ⟨rfl,trivial⟩ rfl (xy [(155,pB true),(158,pN G.vals.length),(160,pI q.count)] (.range 43) rfl rfl rfl rfl rfl (x_run0 [(155,pB true),(158,pN G.vals.length),(160,pI q.count)] (.range 43) rfl rfl rfl rfl (s_neq rfl rfl ⟨rfl,rfl,rfl⟩) (xy [(144,pB false),(155,pB true),(161,pB (!decide (((G.vals.length : Nat) : Int) = q.count)))] (.range 44) rfl rfl rfl rfl rfl ?_)))))
       refine x_run0 [(144,pB false),(155,pB true),(161,pB (!decide (((G.vals.length : Nat) : Int) = q.count)))] (.range 44) rfl rfl rfl rfl (s_pick_t rfl rfl rfl ⟨rfl,rfl,rfl⟩) (xy [(133,pB (decide (G.code = 0))),(144,pB false),(162,pB (!decide (((G.vals.length : Nat) : Int) = q.count)))] (.range 45) rfl rfl rfl rfl g6 (x_run0 [(133,pB (decide (G.code = 0))),(144,pB false),(162,pB (!decide (((G.vals.length : Nat) : Int) = q.count)))] (.range 45) rfl rfl rfl rfl (s_pick_f rfl rfl rfl ⟨rfl,rfl,rfl⟩) (xy [(129,pB (!decide (layR G = b))),(133,pB (decide (G.code = 0))),(163,pB (!decide (((G.vals.length : Nat) : Int) = q.count)))] (.range 46) rfl rfl rfl rfl g5 (x_run0 [(129,pB (!decide (layR G = b))),(133,pB (decide (G.code = 0))),(163,pB (!decide (((G.vals.length : Nat) : Int) = q.count)))] (.range 46) rfl rfl rfl rfl (s_pick_t rfl g6 rfl ⟨rfl,rfl,rfl⟩) (d_op ?_)))))
       refine x_run0 [(129,pB (!decide (layR G = b))),(164,pB (!decide (((G.vals.length : Nat) : Int) = q.count)))] (.range 47) rfl rfl rfl rfl (s_pick_f rfl g5 rfl ⟨rfl,rfl,rfl⟩) (d_end ⟨by kernel_rfl, ?_⟩)
       refine q_then (w_if rfl (fun c21 => ?_) (fun c21 => ?_))
       ·have c21_ := c21
        try simp only [sB] at c21
        refine w_seq (w_R (qo hnt rfl (s_build tab_53 rfl rfl (b_nil ?_))))
        refine qo hnt rfl (s_store_ptr tab_53 rfl rfl rfl rfl rfl (Nat.le_of_ble_eq_true rfl) ?_)
        refine qa hnt rfl rfl (r_set [(4,PV.ptr 2 0),(5,pI 12)] [(2,.obj [pI 0,pI 0,pI 0,pI 0,pI 0,pNil,pNil,p16 0,p16 0,pNil]),(3,oB false 1 enc8 (layR G)),(0,.obj (cReply G)),(1,.obj (cRequest q))] 4 ⟨rfl,rfl,trivial⟩ rfl rfl (r_end (q_then ?_)))
        have hz26 : 0 = R.1.fn ∧ 0 = R.1.code ∧ 0 = R.1.at_ ∧ 0 = R.1.count ∧ 0 = R.1.sub ∧ ([] : List Bool) = R.1.bits ∧ ([] : List UInt16) = R.1.vals ∧ 0 = R.1.and_ ∧ 0 = R.1.or_ ∧ ([] : List UInt8) = R.1.data := by and_intros <;> ((rw [hR,takeW_3 (by omega) hb0 hask hG (fun x y z => by first|contradiction|(exfalso; have hh := head_b hb0 x y; rw [if_neg (by omega)] at hh; have z2 := z (by omega); have z3 := good_ge x (by omega); omega))] <;> rfl))
        refine w_leO (n := 2) (ds := cReply R.1) rfl ⟨le_of_eq (congrArg pI hz26.1),le_of_eq (congrArg pI hz26.2.1),le_of_eq (congrArg pI hz26.2.2.1),le_of_eq (congrArg pI hz26.2.2.2.1),le_of_eq (congrArg pI hz26.2.2.2.2.1),le_tr (le_nilS 1 false) (le_of_eq (congrArg (fun z => pS 1 false encBo z) hz26.2.2.2.2.2.1)),le_tr (le_nilS 1 false) (le_of_eq (congrArg (fun z => pS 1 false enc16 z) hz26.2.2.2.2.2.2.1)),le_of_eq (congrArg p16 hz26.2.2.2.2.2.2.2.1),le_of_eq (congrArg p16 hz26.2.2.2.2.2.2.2.2.1),le_tr (le_nilS 1 false) (le_of_eq (congrArg (fun z => pS 1 false enc8 z) hz26.2.2.2.2.2.2.2.2.2)),trivial⟩ (w_le (s := 5) (y := pI R.2) rfl (le_of_eq (congrArg pI (show 12 = R.2 by (rw [hR,takeW_3 (by omega) hb0 hask hG (fun x y z => by first|contradiction|(exfalso; have hh := head_b hb0 x y; rw [if_neg (by omega)] at hh; have z2 := z (by omega); have z3 := good_ge x (by omega); omega))] <;> rfl)))) (w_ret (q_then_ret ?_)))
        exact fin_plain (ret_cell tab_53 (by decide) rfl rfl (Nat.le_of_ble_eq_true rfl) rfl (ret_tmp rfl ret_nil)) rfl rfl ⟨rfl,rfl,rfl⟩
       have c21_ := c21
       try simp only [sB] at c21
       refine w_skip (q_then (w_seq (w_R (qo hnt rfl (s_load_ptr tab_53 rfl rfl rfl (Nat.le_of_ble_eq_true rfl) ?_)))))
       refine qo hnt rfl (s_store_ptr tab_53 rfl rfl rfl rfl rfl (Nat.le_of_ble_eq_true rfl) ?_)
       refine qa hnt rfl rfl (r_set [(4,PV.ptr 2 0),(5,pI 0)] [(2,.obj (cReply G)),(3,oB false 1 enc8 (layR G)),(0,.obj (cReply G)),(1,.obj (cRequest q))] 4 ⟨rfl,rfl,trivial⟩ rfl rfl (r_end (q_then ?_)))
       have hz27 : G.fn = R.1.fn ∧ G.code = R.1.code ∧ G.at_ = R.1.at_ ∧ G.count = R.1.count ∧ G.sub = R.1.sub ∧ G.bits = R.1.bits ∧ G.vals = R.1.vals ∧ G.and_ = R.1.and_ ∧ G.or_ = R.1.or_ ∧ G.data = R.1.data := by and_intros <;> ((rw [hR,takeW_4 (by omega) hb0 hask hG (by assumption) (by assumption) (fun h0 => by have hh := head_b hb0 (by assumption) (by assumption); rw [if_neg (by omega)] at hh; constructor <;> intro h <;> omega)] <;> rfl))
       refine w_leO (n := 2) (ds := cReply R.1) rfl ⟨le_of_eq (congrArg pI hz27.1),le_of_eq (congrArg pI hz27.2.1),le_of_eq (congrArg pI hz27.2.2.1),le_of_eq (congrArg pI hz27.2.2.2.1),le_of_eq (congrArg pI hz27.2.2.2.2.1),le_of_eq (congrArg (fun z => pS 1 false encBo z) hz27.2.2.2.2.2.1),le_of_eq (congrArg (fun z => pS 1 false enc16 z) hz27.2.2.2.2.2.2.1),le_of_eq (congrArg p16 hz27.2.2.2.2.2.2.2.1),le_of_eq (congrArg p16 hz27.2.2.2.2.2.2.2.2.1),le_of_eq (congrArg (fun z => pS 1 false enc8 z) hz27.2.2.2.2.2.2.2.2.2),trivial⟩ (w_le (s := 5) (y := pI R.2) rfl (le_of_eq (congrArg pI (show 0 = R.2 by (rw [hR,takeW_4 (by omega) hb0 hask hG (by assumption) (by assumption) (fun h0 => by have hh := head_b hb0 (by assumption) (by assumption); rw [if_neg (by omega)] at hh; constructor <;> intro h <;> omega)] <;> rfl)))) (w_ret ?_))
       exact fin_plain (ret_cell tab_53 (by decide) rfl rfl (Nat.le_of_ble_eq_true rfl) rfl (ret_tmp rfl ret_nil)) rfl rfl ⟨rfl,rfl,rfl⟩
      have g6' := g6
      try simp only [sB] at g6'
      refine xn [(133,pB (decide (G.code = 0))),(134,undefP)] (.range 17) rfl rfl rfl rfl g6 (xn [(133,pB (decide (G.code = 0))),(135,undefP)] (.range 18) rfl rfl rfl rfl g6 (x_undef [(136,undefP),(7,PV.ptr 0 0)] (.range 19) rfl rfl rfl rfl (x_undef [(136,undefP),(137,undefP)] (.range 20) rfl rfl rfl rfl (x_undef [(136,undefP),(138,undefP)] (.range 21) rfl rfl rfl rfl (x_undef [(136,undefP),(3,PV.ptr 1 0)] (.range 19) rfl rfl rfl rfl ?_)))))
      refine x_undef [(136,undefP),(140,undefP)] (.range 19 ++ [22]) rfl rfl rfl rfl (x_undef [(136,undefP),(139,undefP),(141,undefP)] (.range 24) rfl rfl rfl rfl (xn [(133,pB (decide (G.code = 0))),(136,undefP),(142,undefP)] (.range 25) rfl rfl rfl rfl g6 (xn [(133,pB (decide (G.code = 0))),(143,undefP)] (.range 26) rfl rfl rfl rfl g6 (x_undef [(144,undefP),(6,pN (UInt8.toNat e1))] (.range 27) rfl rfl rfl rfl (x_undef [(144,undefP),(145,undefP)] (.range 28) rfl rfl rfl rfl ?_)))))
      refine x_undef [(144,undefP),(146,undefP)] (.range 29) rfl rfl rfl rfl (x_undef [(147,undefP),(6,pN (UInt8.toNat e1))] (.range 30) rfl rfl rfl rfl (x_undef [(147,undefP),(148,undefP)] (.range 31) rfl rfl rfl rfl (x_undef [(144,undefP),(147,undefP),(149,undefP)] (.range 32) rfl rfl rfl rfl (x_undef [(144,undefP),(150,undefP)] (.range 33) rfl rfl rfl rfl (x_undef [(151,undefP),(6,pN (UInt8.toNat e1))] (.range 34) rfl rfl rfl rfl ?_)))))
      refine x_undef [(151,undefP),(152,undefP)] (.range 35) rfl rfl rfl rfl (x_undef [(144,undefP),(151,undefP),(153,undefP)] (.range 36) rfl rfl rfl rfl (x_undef [(144,undefP),(154,undefP)] (.range 37) rfl rfl rfl rfl (x_undef [(155,undefP),(7,PV.ptr 0 0)] (.range 38) rfl rfl rfl rfl (x_undef [(155,undefP),(156,undefP)] (.range 39) rfl rfl rfl rfl (x_undef [(155,undefP),(157,undefP)] (.range 40) rfl rfl rfl rfl ?_)))))
      refine x_undef [(155,undefP),(3,PV.ptr 1 0)] (.range 38) rfl rfl rfl rfl (x_undef [(155,undefP),(159,undefP)] (.range 38 ++ [41]) rfl rfl rfl rfl (x_undef [(155,undefP),(158,undefP),(160,undefP)] (.range 43) rfl rfl rfl rfl (x_undef [(144,undefP),(155,undefP),(161,undefP)] (.range 44) rfl rfl rfl rfl (xn [(133,pB (decide (G.code = 0))),(144,undefP),(162,undefP)] (.range 45) rfl rfl rfl rfl g6 (xy [(129,pB (!decide (layR G = b))),(133,pB (decide (G.code = 0))),(163,undefP)] (.range 46) rfl rfl rfl rfl g5 ?_)))))
      refine x_run0 [(129,pB (!decide (layR G = b))),(133,pB (decide (G.code = 0))),(163,undefP)] (.range 46) rfl rfl rfl rfl (s_pick_f rfl g6 rfl ⟨rfl,rfl,rfl⟩) (d_op (x_run0 [(129,pB (!decide (layR G = b))),(164,pB false)] (.range 47) rfl rfl rfl rfl (s_pick_f rfl g5 rfl ⟨rfl,rfl,rfl⟩) (d_end ⟨by kernel_rfl, ?_⟩)))
      refine q_then (w_if rfl (fun e => absurd e (by decide)) (fun _ => ?_))
      refine w_skip (q_then (w_seq (w_R (qo hnt rfl (s_load_ptr tab_53 rfl rfl rfl (Nat.le_of_ble_eq_true rfl) ?_)))))
      refine qo hnt rfl (s_store_ptr tab_53 rfl rfl rfl rfl rfl (Nat.le_of_ble_eq_true rfl) ?_)
      refine qa hnt rfl rfl (r_set [(4,PV.ptr 2 0),(5,pI 0)] [(2,.obj (cReply G)),(3,oB false 1 enc8 (layR G)),(0,.obj (cReply G)),(1,.obj (cRequest q))] 4 ⟨rfl,rfl,trivial⟩ rfl rfl (r_end (q_then ?_)))
      have hz28 : G.fn = R.1.fn ∧ G.code = R.1.code ∧ G.at_ = R.1.at_ ∧ G.count = R.1.count ∧ G.sub = R.1.sub ∧ G.bits = R.1.bits ∧ G.vals = R.1.vals ∧ G.and_ = R.1.and_ ∧ G.or_ = R.1.or_ ∧ G.data = R.1.data := by and_intros <;> ((rw [hR,takeW_4 (by omega) hb0 hask hG (by assumption) (by assumption) (fun h0 => by have hh := head_b hb0 (by assumption) (by assumption); rw [if_neg (by omega)] at hh; constructor <;> intro h <;> omega)] <;> rfl))
      refine w_leO (n := 2) (ds := cReply R.1) rfl ⟨le_of_eq (congrArg pI hz28.1),le_of_eq (congrArg pI hz28.2.1),le_of_eq (congrArg pI hz28.2.2.1),le_of_eq (congrArg pI hz28.2.2.2.1),le_of_eq (congrArg pI hz28.2.2.2.2.1),le_of_eq (congrArg (fun z => pS 1 false encBo z) hz28.2.2.2.2.2.1),le_of_eq (congrArg (fun z => pS 1 false enc16 z) hz28.2.2.2.2.2.2.1),le_of_eq (congrArg p16 hz28.2.2.2.2.2.2.2.1),le_of_eq (congrArg p16 hz28.2.2.2.2.2.2.2.2.1),le_of_eq (congrArg (fun z => pS 1 false enc8 z) hz28.2.2.2.2.2.2.2.2.2),trivial⟩ (w_le (s := 5) (y := pI R.2) rfl (le_of_eq (congrArg pI (show 0 = R.2 by (rw [hR,takeW_4 (by omega) hb0 hask hG (by assumption) (by assumption) (fun h0 => by have hh := head_b hb0 (by assumption) (by assumption); rw [if_neg (by omega)] at hh; constructor <;> intro h <;> omega)] <;> rfl)))) (w_ret ?_))
      exact fin_plain (ret_cell tab_53 (by decide) rfl rfl (Nat.le_of_ble_eq_true rfl) rfl (ret_tmp rfl ret_nil)) rfl rfl ⟨rfl,rfl,rfl⟩
     have g5' := g5
     try simp only [sB] at g5'
     refine xn [(129,pB (!decide (layR G = b))),(130,undefP)] (.range 13) rfl rfl rfl rfl g5 (xn [(129,pB (!decide (layR G = b))),(131,undefP)] (.range 14) rfl rfl rfl rfl g5 (xn [(129,pB (!decide (layR G = b))),(132,undefP)] (.range 15) rfl rfl rfl rfl g5 (x_undef [(133,undefP),(6,pN (UInt8.toNat e1))] (.range 16) rfl rfl rfl rfl (x_undef [(133,undefP),(134,undefP)] (.range 17) rfl rfl rfl rfl (x_undef [(133,undefP),(135,undefP)] (.range 18) rfl rfl rfl rfl ?_)))))
     refine x_undef [(136,undefP),(7,PV.ptr 0 0)] (.range 19) rfl rfl rfl rfl (x_undef [(136,undefP),(137,undefP)] (.range 20) rfl rfl rfl rfl (x_undef [(136,undefP),(138,undefP)] (.range 21) rfl rfl rfl rfl (x_undef [(136,undefP),(3,PV.ptr 1 0)] (.range 19) rfl rfl rfl rfl (x_undef [(136,undefP),(140,undefP)] (.range 19 ++ [22]) rfl rfl rfl rfl (x_undef [(136,undefP),(139,undefP),(141,undefP)] (.range 24) rfl rfl rfl rfl ?_)))))
     refine x_undef [(133,undefP),(136,undefP),(142,undefP)] (.range 25) rfl rfl rfl rfl (x_undef [(133,undefP),(143,undefP)] (.range 26) rfl rfl rfl rfl (x_undef [(144,undefP),(6,pN (UInt8.toNat e1))] (.range 27) rfl rfl rfl rfl (x_undef [(144,undefP),(145,undefP)] (.range 28) rfl rfl rfl rfl (x_undef [(144,undefP),(146,undefP)] (.range 29) rfl rfl rfl rfl (x_undef [(147,undefP),(6,pN (UInt8.toNat e1))] (.range 30) rfl rfl rfl rfl ?_)))))
     refine x_undef [(147,undefP),(148,undefP)] (.range 31) rfl rfl rfl rfl (x_undef [(144,undefP),(147,undefP),(149,undefP)] (.range 32) rfl rfl rfl rfl (x_undef [(144,undefP),(150,undefP)] (.range 33) rfl rfl rfl rfl (x_undef [(151,undefP),(6,pN (UInt8.toNat e1))] (.range 34) rfl rfl rfl rfl (x_undef [(151,undefP),(152,undefP)] (.range 35) rfl rfl rfl rfl (x_undef [(144,undefP),(151,undefP),(153,undefP)] (.range 36) rfl rfl rfl rfl ?_)))))
     refine x_undef [(144,undefP),(154,undefP)] (.range 37) rfl rfl rfl rfl (x_undef [(155,undefP),(7,PV.ptr 0 0)] (.range 38) rfl rfl rfl rfl (x_undef [(155,undefP),(156,undefP)] (.range 39) rfl rfl rfl rfl (x_undef [(155,undefP),(157,undefP)] (.range 40) rfl rfl rfl rfl (x_undef [(155,undefP),(3,PV.ptr 1 0)] (.range 38) rfl rfl rfl rfl (x_undef [(155,undefP),(159,undefP)] (.range 38 ++ [41]) rfl rfl rfl rfl ?_)))))
     refine x_undef [(155,undefP),(158,undefP),(160,undefP)] (.range 43) rfl rfl rfl rfl (x_undef [(144,undefP),(155,undefP),(161,undefP)] (.range 44) rfl rfl rfl rfl (x_undef [(133,undefP),(144,undefP),(162,undefP)] (.range 45) rfl rfl rfl rfl (xn [(129,pB (!decide (layR G = b))),(133,undefP),(163,undefP)] (.range 46) rfl rfl rfl rfl g5 (d_op (x_run0 [(129,pB (!decide (layR G = b))),(164,undefP)] (.range 47) rfl rfl rfl rfl (s_pick_t rfl g5 rfl ⟨rfl,rfl,rfl⟩) ?_)))))
     refine d_end ⟨by kernel_rfl, ?_⟩
     refine q_then (w_if rfl (fun _ => ?_) (fun e => absurd e (by decide)))
     refine w_seq (w_R (qo hnt rfl (s_build tab_53 rfl rfl (b_nil ?_))))
     refine qo hnt rfl (s_store_ptr tab_53 rfl rfl rfl rfl rfl (Nat.le_of_ble_eq_true rfl) ?_)
     refine qa hnt rfl rfl (r_set [(4,PV.ptr 2 0),(5,pI 12)] [(2,.obj [pI 0,pI 0,pI 0,pI 0,pI 0,pNil,pNil,p16 0,p16 0,pNil]),(3,oB false 1 enc8 (layR G)),(0,.obj (cReply G)),(1,.obj (cRequest q))] 4 ⟨rfl,rfl,trivial⟩ rfl rfl (r_end (q_then ?_)))
     have hz29 : 0 = R.1.fn ∧ 0 = R.1.code ∧ 0 = R.1.at_ ∧ 0 = R.1.count ∧ 0 = R.1.sub ∧ ([] : List Bool) = R.1.bits ∧ ([] : List UInt16) = R.1.vals ∧ 0 = R.1.and_ ∧ 0 = R.1.or_ ∧ ([] : List UInt8) = R.1.data := by and_intros <;> ((rw [hR,takeW_3 (by omega) hb0 hask hG (fun x y z => by first|contradiction|(exfalso; have hh := head_b hb0 x y; rw [if_neg (by omega)] at hh; have z2 := z (by omega); have z3 := good_ge x (by omega); omega))] <;> rfl))
     refine w_leO (n := 2) (ds := cReply R.1) rfl ⟨le_of_eq (congrArg pI hz29.1),le_of_eq (congrArg pI hz29.2.1),le_of_eq (congrArg pI hz29.2.2.1),le_of_eq (congrArg pI hz29.2.2.2.1),le_of_eq (congrArg pI hz29.2.2.2.2.1),le_tr (le_nilS 1 false) (le_of_eq (congrArg (fun z => pS 1 false encBo z) hz29.2.2.2.2.2.1)),le_tr (le_nilS 1 false) (le_of_eq (congrArg (fun z => pS 1 false enc16 z) hz29.2.2.2.2.2.2.1)),le_of_eq (congrArg p16 hz29.2.2.2.2.2.2.2.1),le_of_eq (congrArg p16 hz29.2.2.2.2.2.2.2.2.1),le_tr (le_nilS 1 false) (le_of_eq (congrArg (fun z => pS 1 false enc8 z) hz29.2.2.2.2.2.2.2.2.2)),trivial⟩ (w_le (s := 5) (y := pI R.2) rfl (le_of_eq (congrArg pI (show 12 = R.2 by (rw [hR,takeW_3 (by omega) hb0 hask hG (fun x y z => by first|contradiction|(exfalso; have hh := head_b hb0 x y; rw [if_neg (by omega)] at hh; have z2 := z (by omega); have z3 := good_ge x (by omega); omega))] <;> rfl)))) (w_ret (q_then_ret ?_)))
     exact fin_plain (ret_cell tab_53 (by decide) rfl rfl (Nat.le_of_ble_eq_true rfl) rfl (ret_tmp rfl ret_nil)) rfl rfl ⟨rfl,rfl,rfl⟩
    have g4' := g4
    try simp only [sB] at g4'
    refine xn [(121,pB (!decide (goodR G = 0))),(122,undefP)] [0,1,2,3,4] rfl rfl rfl rfl g4 (xn [(121,pB (!decide (goodR G = 0))),(123,undefP)] [0,1,2,3,4,5] rfl rfl rfl rfl g4 (xn [(121,pB (!decide (goodR G = 0))),(0,pS 1 cl_b enc8 b)] [0,1,2,3] rfl rfl rfl rfl g4 (xn [(121,pB (!decide (goodR G = 0))),(125,undefP)] [0,1,2,3,7] rfl rfl rfl rfl g4 (xn [(121,pB (!decide (goodR G = 0))),(124,undefP),(126,undefP)] (.range 9) rfl rfl rfl rfl g4 (d_op ?_)))))
    refine x_run0 [(121,pB (!decide (goodR G = 0))),(127,undefP)] (.range 10) rfl rfl rfl rfl (s_pick_t rfl g4 rfl ⟨rfl,rfl,rfl⟩) (d_op (x_run0 [(128,pB true)] (.range 11) rfl rfl rfl rfl (s_move rfl ⟨rfl,rfl,rfl⟩) (xn [(129,pB true),(7,PV.ptr 0 0)] (.range 12) rfl rfl rfl rfl rfl (xn [(129,pB true),(130,undefP)] (.range 13) rfl rfl rfl rfl rfl (xn [(129,pB true),(131,undefP)] (.range 14) rfl rfl rfl rfl rfl ?_)))))
    refine xn [(129,pB true),(132,undefP)] (.range 15) rfl rfl rfl rfl rfl (x_undef [(133,undefP),(6,pN (UInt8.toNat e1))] (.range 16) rfl rfl rfl rfl (x_undef [(133,undefP),(134,undefP)] (.range 17) rfl rfl rfl rfl (x_undef [(133,undefP),(135,undefP)] (.range 18) rfl rfl rfl rfl (x_undef [(136,undefP),(7,PV.ptr 0 0)] (.range 19) rfl rfl rfl rfl (x_undef [(136,undefP),(137,undefP)] (.range 20) rfl rfl rfl rfl ?_)))))
    refine x_undef [(136,undefP),(138,undefP)] (.range 21) rfl rfl rfl rfl (x_undef [(136,undefP),(3,PV.ptr 1 0)] (.range 19) rfl rfl rfl rfl (x_undef [(136,undefP),(140,undefP)] (.range 19 ++ [22]) rfl rfl rfl rfl (x_undef [(136,undefP),(139,undefP),(141,undefP)] (.range 24) rfl rfl rfl rfl (x_undef [(133,undefP),(136,undefP),(142,undefP)] (.range 25) rfl rfl rfl rfl (x_undef [(133,undefP),(143,undefP)] (.range 26) rfl rfl rfl rfl ?_)))))
    refine x_undef [(144,undefP),(6,pN (UInt8.toNat e1))] (.range 27) rfl rfl rfl rfl (x_undef [(144,undefP),(145,undefP)] (.range 28) rfl rfl rfl rfl (x_undef [(144,undefP),(146,undefP)] (.range 29) rfl rfl rfl rfl (x_undef [(147,undefP),(6,pN (UInt8.toNat e1))] (.range 30) rfl rfl rfl rfl (x_undef [(147,undefP),(148,undefP)] (.range 31) rfl rfl rfl rfl (x_undef [(144,undefP),(147,undefP),(149,undefP)] (.range 32) rfl rfl rfl rfl ?_)))))
    refine x_undef [(144,undefP),(150,undefP)] (.range 33) rfl rfl rfl rfl (x_undef [(151,undefP),(6,pN (UInt8.toNat e1))] (.range 34) rfl rfl rfl rfl (x_undef [(151,undefP),(152,undefP)] (.range 35) rfl rfl rfl rfl (x_undef [(144,undefP),(151,undefP),(153,undefP)] (.range 36) rfl rfl rfl rfl (x_undef [(144,undefP),(154,undefP)] (.range 37) rfl rfl rfl rfl (x_undef [(155,undefP),(7,PV.ptr 0 0)] (.range 38) rfl rfl rfl rfl ?_)))))
    refine x_undef [(155,undefP),(156,undefP)] (.range 39) rfl rfl rfl rfl (x_undef [(155,undefP),(157,undefP)] (.range 40) rfl rfl rfl rfl (x_undef [(155,undefP),(3,PV.ptr 1 0)] (.range 38) rfl rfl rfl rfl (x_undef [(155,undefP),(159,undefP)] (.range 38 ++ [41]) rfl rfl rfl rfl (x_undef [(155,undefP),(158,undefP),(160,undefP)] (.range 43) rfl rfl rfl rfl (x_undef [(144,undefP),(155,undefP),(161,undefP)] (.range 44) rfl rfl rfl rfl ?_)))))
    refine x_undef [(133,undefP),(144,undefP),(162,undefP)] (.range 45) rfl rfl rfl rfl (xn [(129,pB true),(133,undefP),(163,undefP)] (.range 46) rfl rfl rfl rfl rfl (d_op (x_run0 [(129,pB true),(164,undefP)] (.range 47) rfl rfl rfl rfl (s_pick_t rfl rfl rfl ⟨rfl,rfl,rfl⟩) (d_end ⟨by kernel_rfl, ?_⟩))))
    refine q_then (w_if rfl (fun _ => ?_) (fun e => absurd e (by decide)))
    refine w_seq (w_R (qo hnt rfl (s_build tab_53 rfl rfl (b_nil ?_))))
    refine qo hnt rfl (s_store_ptr tab_53 rfl rfl rfl rfl rfl (Nat.le_of_ble_eq_true rfl) ?_)
    refine qa hnt rfl rfl (r_set [(4,PV.ptr 2 0),(5,pI 12)] [(2,.obj [pI 0,pI 0,pI 0,pI 0,pI 0,pNil,pNil,p16 0,p16 0,pNil]),(0,.obj (cReply G)),(1,.obj (cRequest q))] 3 ⟨rfl,rfl,trivial⟩ rfl rfl (r_end (q_then ?_)))
    have hz30 : 0 = R.1.fn ∧ 0 = R.1.code ∧ 0 = R.1.at_ ∧ 0 = R.1.count ∧ 0 = R.1.sub ∧ ([] : List Bool) = R.1.bits ∧ ([] : List UInt16) = R.1.vals ∧ 0 = R.1.and_ ∧ 0 = R.1.or_ ∧ ([] : List UInt8) = R.1.data := by and_intros <;> ((rw [hR,takeW_3 (by omega) hb0 hask hG (fun x y z => by first|contradiction|(exfalso; have hh := head_b hb0 x y; rw [if_neg (by omega)] at hh; have z2 := z (by omega); have z3 := good_ge x (by omega); omega))] <;> rfl))
    refine w_leO (n := 2) (ds := cReply R.1) rfl ⟨le_of_eq (congrArg pI hz30.1),le_of_eq (congrArg pI hz30.2.1),le_of_eq (congrArg pI hz30.2.2.1),le_of_eq (congrArg pI hz30.2.2.2.1),le_of_eq (congrArg pI hz30.2.2.2.2.1),le_tr (le_nilS 1 false) (le_of_eq (congrArg (fun z => pS 1 false encBo z) hz30.2.2.2.2.2.1)),le_tr (le_nilS 1 false) (le_of_eq (congrArg (fun z => pS 1 false enc16 z) hz30.2.2.2.2.2.2.1)),le_of_eq (congrArg p16 hz30.2.2.2.2.2.2.2.1),le_of_eq (congrArg p16 hz30.2.2.2.2.2.2.2.2.1),le_tr (le_nilS 1 false) (le_of_eq (congrArg (fun z => pS 1 false enc8 z) hz30.2.2.2.2.2.2.2.2.2)),trivial⟩ (w_le (s := 5) (y := pI R.2) rfl (le_of_eq (congrArg pI (show 12 = R.2 by (rw [hR,takeW_3 (by omega) hb0 hask hG (fun x y z => by first|contradiction|(exfalso; have hh := head_b hb0 x y; rw [if_neg (by omega)] at hh; have z2 := z (by omega); have z3 := good_ge x (by omega); omega))] <;> rfl)))) (w_ret (q_then_ret ?_)))
    exact fin_plain (ret_cell tab_53 (by decide) rfl rfl (Nat.le_of_ble_eq_true rfl) rfl (ret_tmp rfl ret_nil)) rfl rfl ⟨rfl,rfl,rfl⟩
end Go.Proofs.Ytljkbpgcglomfaa
