/- What the law WindowNumbers needs, and no more: merged out of texts of this session by a program of it (wip/tools/prune.py). -/
import Derived.Test.YtljkbpgcglomfaaQWindowNumbers2
set_option linter.unusedVariables false
set_option linter.unusedSimpArgs false
set_option maxRecDepth 10000
set_option maxHeartbeats 1000000
namespace Go.Proofs.Ytljkbpgcglomfaa
open Go Go.Proofs.Ytljkbpgcglomfaa.Pv
theorem w_burgagekeep_Tape_windows (L : List Int) (cl_L : Bool) (a : Nat) (i : Nat) (hL : L.length ≤ 70000000000000) (hi3 : i ≤ 3) :
    T Try.prog 71 [PV.ptr 0 0,pN i] 1 [(0,.obj [pS 1 cl_L encI L,pN a])] (fun ra rb rc => ∃ q : List TWindow,∃ b : Nat,(WinsOk q) ∧ (Ret (pS 4 false eWindow q) 1 [(0,.obj [pS 1 false encI L,pN b])]) ra rb rc) := by
 refine t_fun tabOk (n := 71) (rs := [.tmp 4]) Try.func71 rfl rfl rfl rfl (Nat.le_of_ble_eq_true rfl) ?_
 intro c hnt hk
 refine w_seq ?_
 refine w_R ?_
 refine qa hnt rfl rfl ?_
 refine r_end ?_
 refine q_then ?_
 refine w_seq ?_
 refine w_R ?_
 refine qa hnt rfl rfl ?_
 refine r_end ?_
 refine q_then ?_
 refine w_seq ?_
 refine w_R ?_
 refine qm hnt rfl rfl ?_
 refine qo hnt rfl (s_mulN (a := 128) (b := i) rfl rfl (by omega) (by omega) (by omega) ?_)
 refine qm hnt rfl rfl ?_
 refine qo hnt rfl (s_mulN (a := 128) (b := i) rfl rfl (by omega) (by omega) (by omega) ?_)
 refine qm hnt rfl rfl ?_
 refine qo hnt rfl (s_mulN (a := 128) (b := i) rfl rfl (by omega) (by omega) (by omega) ?_)
 refine qm hnt rfl rfl ?_
 refine qo hnt rfl (s_mulN (a := 128) (b := i) rfl rfl (by omega) (by omega) (by omega) ?_)
 refine qo hnt rfl (s_buildA tab_145 rfl tab_3 (b_cons rfl tab_3 rfl rfl rfl (Nat.le_of_ble_eq_true rfl) (b_cons rfl tab_3 rfl rfl rfl (Nat.le_of_ble_eq_true rfl) (b_cons rfl tab_3 rfl rfl rfl (Nat.le_of_ble_eq_true rfl) (b_cons rfl tab_3 rfl rfl rfl (Nat.le_of_ble_eq_true rfl) (b_nilN (cs' := [pN (128 * i),pN (128 * i),pN (128 * i),pN (128 * i)]) rfl ?_))))))
 refine qo hnt rfl (s_alloc tab_145 ?_)
 refine qo hnt rfl (s_store_ptr tab_145 rfl rfl rfl rfl rfl (Nat.le_of_ble_eq_true rfl) ?_)
 refine r_set [(0,PV.ptr 0 0),(5,pNil),(6,PV.ptr 1 0)] [(1,.obj [pN (128 * i),pN (128 * i),pN (128 * i),pN (128 * i)]),(0,.obj [pS 1 cl_L encI L,pN a])] 2 ⟨rfl,rfl,rfl,trivial⟩ rfl rfl ?_
 refine r_end ?_
 refine q_then ?_
 refine w_seq ?_
 refine w_R ?_
 refine qo hnt rfl (s_buildA tab_145 rfl tab_3 (b_nil ?_))
 refine qo hnt rfl (s_alloc tab_145 ?_)
 refine qo hnt rfl (s_store_ptr tab_145 rfl rfl rfl rfl rfl (Nat.le_of_ble_eq_true rfl) ?_)
 refine r_set [(0,PV.ptr 0 0),(5,pNil),(6,PV.ptr 1 0),(7,PV.ptr 2 0)] [(2,.obj [pI 0,pI 0,pI 0,pI 0]),(1,.obj [pN (128 * i),pN (128 * i),pN (128 * i),pN (128 * i)]),(0,.obj [pS 1 cl_L encI L,pN a])] 3 ⟨rfl,rfl,rfl,rfl,trivial⟩ rfl rfl ?_
 refine r_end ?_
 refine q_then ?_
 refine w_seq ?_
 refine w_seq ?_
 refine w_R ?_
 refine qm hnt rfl rfl ?_
 refine qo hnt rfl (s_callX (r2 := pI (tNext L a 6)) (nx1 := 3) (H2 := [(2,.obj [pI 0,pI 0,pI 0,pI 0]),(1,.obj [pN (128 * i),pN (128 * i),pN (128 * i),pN (128 * i)]),(0,.obj [pS 1 cl_L encI L,pN a])]) (H3 := [(0,.obj [pS 1 false encI L,pN (tStep L a 6)]),(2,.obj [pI 0,pI 0,pI 0,pI 0]),(1,.obj [pN (128 * i),pN (128 * i),pN (128 * i),pN (128 * i)])]) [0] [.obj [pS 1 cl_L encI L,pN a]] rfl rfl rfl (handed_of (by decide) ⟨rfl,trivial⟩) rfl rfl rfl rfl rfl rfl (w_burgagekeep_Tape_Next L cl_L a 6 (by omega) (by omega)) rfl (dist_of rfl) rfl rfl rfl rfl ?_)
 refine qa hnt rfl rfl ?_
 refine r_set [(0,PV.ptr 0 0),(5,pNil),(6,PV.ptr 1 0),(7,PV.ptr 2 0),(8,pI (tNext L a 6))] [(0,.obj [pS 1 false encI L,pN (tStep L a 6)]),(2,.obj [pI 0,pI 0,pI 0,pI 0]),(1,.obj [pN (128 * i),pN (128 * i),pN (128 * i),pN (128 * i)])] 3 ⟨rfl,rfl,rfl,rfl,rfl,trivial⟩ rfl rfl ?_
 refine r_end ?_
 refine q_then ?_
 refine w_block ?_
 refine w_adopt (s := 5) (sz := 4) rfl ?_
 refine loop11 (fun (ap : Nat) (os : List TWindow) (f0 : Int) (f1 : Int) (f2 : Int) (f3 : Int) (v0 : Int) (v1 : Int) (v2 : Int) (v3 : Int) (kk : Int) => (os.length : Int) + kk ≤ 5 ∧ -1 ≤ kk ∧ WInv ((128 * i : Nat) : Int) os (four v0 v1 v2 v3) (four f0 f1 f2 f3)) (fun (ap : Nat) (os : List TWindow) (f0 : Int) (f1 : Int) (f2 : Int) (f3 : Int) (v0 : Int) (v1 : Int) (v2 : Int) (v3 : Int) (kk : Int) => [(0,PV.ptr 0 0),(5,PV.ref 1 0 none),(6,PV.ptr 2 0),(7,PV.ptr 3 0),(8,pI kk)]) 4 (fun (ap : Nat) (os : List TWindow) (f0 : Int) (f1 : Int) (f2 : Int) (f3 : Int) (v0 : Int) (v1 : Int) (v2 : Int) (v3 : Int) (kk : Int) => [(0,.obj [pS 1 false encI L,pN ap]),(1,oB true 4 eWindow os),(2,.obj [pI f0,pI f1,pI f2,pI f3]),(3,.obj [pI v0,pI v1,pI v2,pI v3])]) (fun (ap : Nat) (os : List TWindow) (f0 : Int) (f1 : Int) (f2 : Int) (f3 : Int) (v0 : Int) (v1 : Int) (v2 : Int) (v3 : Int) (kk : Int) => (kk + 1).toNat) (tStep L a 6) (([] : List TWindow)) (((128 * i : Nat) : Int)) (((128 * i : Nat) : Int)) (((128 * i : Nat) : Int)) (((128 * i : Nat) : Int)) (0) (0) (0) (0) (tNext L a 6) ?_ ⟨[(0,0),(1,3),(2,1),(3,2)],by rw [hk]; decide,⟨⟨_,rfl,rfl,rfl⟩,⟨_,rfl,rfl,rfl⟩,⟨_,rfl,rfl,rfl⟩,⟨_,rfl,rfl,rfl⟩,⟨_,rfl,rfl,rfl⟩,trivial⟩,⟨⟨_,_,rfl,rfl,rfl,rfl⟩,⟨_,_,rfl,rfl,rfl,rfl⟩,⟨_,_,rfl,rfl,rfl,rfl⟩,⟨_,_,rfl,rfl,rfl,rfl⟩,trivial⟩,by rw [hk]; decide⟩ ?_
 · have h6 := tNext_lt L a (n := 6) (by decide); exact ⟨by simp; omega,by omega,WInv.nil _⟩
 ·
  intro ap os f0 f1 f2 f3 v0 v1 v2 v3 kk hI
  obtain ⟨hok,hkk,hW⟩ := hI
  have hv0 : 0 ≤ v0 ∧ v0 ≤ 23 * (os.length : Int) := hW.vb 0 (by decide)
  have hv1 : 0 ≤ v1 ∧ v1 ≤ 23 * (os.length : Int) := hW.vb 1 (by decide)
  have hv2 : 0 ≤ v2 ∧ v2 ≤ 23 * (os.length : Int) := hW.vb 2 (by decide)
  have hv3 : 0 ≤ v3 ∧ v3 ≤ 23 * (os.length : Int) := hW.vb 3 (by decide)
  have hf0 : ((128 * i : Nat) : Int) ≤ f0 ∧ f0 ≤ ((128 * i : Nat) : Int) + 20 * (os.length : Int) := hW.fb 0 (by decide)
  have hf1 : ((128 * i : Nat) : Int) ≤ f1 ∧ f1 ≤ ((128 * i : Nat) : Int) + 20 * (os.length : Int) := hW.fb 1 (by decide)
  have hf2 : ((128 * i : Nat) : Int) ≤ f2 ∧ f2 ≤ ((128 * i : Nat) : Int) + 20 * (os.length : Int) := hW.fb 2 (by decide)
  have hf3 : ((128 * i : Nat) : Int) ≤ f3 ∧ f3 ≤ ((128 * i : Nat) : Int) + 20 * (os.length : Int) := hW.fb 3 (by decide)
  refine w_seq ?_
  refine w_seq ?_
  have hlo : (os.length : Int) ≤ 6 := by omega
  refine w_R ?_
  refine qm hnt rfl rfl ?_
  refine qo hnt rfl (s_geq rfl rfl ?_)
  refine r_end ?_
  refine q_then ?_
  refine w_if rfl (fun c1 => ?_) (fun c1 => ?_)
  ·
   have c1_ := c1
   try simp only [sB] at c1
   refine w_skip ?_
   refine q_then ?_
   refine w_seq ?_
   refine w_block ?_
   refine w_seq ?_
   refine w_R ?_
   refine qo hnt rfl (s_mkM (f := encI) ([3,0,3,1,2,3] : List Int) tab_24 rfl tab_3 ⟨rfl,by decide⟩ (by decide) rfl rfl rfl rfl ?_)
   refine qm hnt rfl rfl ?_
   refine qo hnt rfl (s_callX (r2 := pI (tNext L ap 6)) (nx1 := 5) (H2 := [(4,oB true 1 encI ([3,0,3,1,2,3] : List Int)),(0,.obj [pS 1 false encI L,pN ap]),(1,oB true 4 eWindow os),(2,.obj [pI f0,pI f1,pI f2,pI f3]),(3,.obj [pI v0,pI v1,pI v2,pI v3])]) (H3 := [(0,.obj [pS 1 false encI L,pN (tStep L ap 6)]),(4,oB true 1 encI ([3,0,3,1,2,3] : List Int)),(1,oB true 4 eWindow os),(2,.obj [pI f0,pI f1,pI f2,pI f3]),(3,.obj [pI v0,pI v1,pI v2,pI v3])]) [0] [.obj [pS 1 false encI L,pN ap]] rfl rfl rfl (handed_of (by decide) ⟨rfl,trivial⟩) rfl rfl rfl rfl rfl rfl (w_burgagekeep_Tape_Next L false ap 6 (by omega) (by omega)) rfl (dist_of rfl) rfl rfl rfl rfl ?_)
   have hb29 := tNext_lt L ap (n := 6) (by decide)
   refine qo hnt rfl (s_iaR0 (q := Int.toNat (tNext L ap 6)) (f := encI) (l := ([3,0,3,1,2,3] : List Int)) tab_24 rfl tab_3 rfl rfl (by omega) rfl rfl (by simp; omega) ?_)
   obtain ⟨e1,he1⟩ := get_of_lt ([3,0,3,1,2,3] : List Int) (i := Int.toNat (tNext L ap 6)) (by simp; omega)
   refine qo hnt rfl (s_ldM (b := e1) (f := encI) tab_3 rfl rfl rfl rfl he1 rfl ?_)
   refine qa hnt rfl rfl ?_
   refine r_set [(0,PV.ptr 0 0),(5,PV.ref 1 0 none),(6,PV.ptr 2 0),(7,PV.ptr 3 0),(8,pI kk),(9,pI e1)] [(0,.obj [pS 1 false encI L,pN (tStep L ap 6)]),(4,oB true 1 encI ([3,0,3,1,2,3] : List Int)),(1,oB true 4 eWindow os),(2,.obj [pI f0,pI f1,pI f2,pI f3]),(3,.obj [pI v0,pI v1,pI v2,pI v3])] 5 ⟨rfl,rfl,rfl,rfl,rfl,rfl,trivial⟩ rfl rfl ?_
   refine r_end ?_
   refine q_then ?_
   refine w_seq ?_
   rcases (show e1 = 0 ∨ e1 = 1 ∨ e1 = 2 ∨ e1 = 3 from by have hm2 := List.mem_of_getElem? he1; simp only [List.mem_cons,List.not_mem_nil,or_false] at hm2; omega) with hs1|hs1|hs1|hs1
   ·
    refine w_eq (s := 9) (y := pI 0) rfl (congrArg pI hs1) ?_
    refine W_drawn tabOk mixed hnt [[],[],[1],[1,2],[],[],[5],[4,5,6],[4,5,6,7],[1,2,3,4,5,6,7,8],[],[10],[10,11],[],[5,6,13],[5,6,10,11,12,13,14],[],[5,6,13,14,16],[5,6,13,14,16,17],[0,1,2,3,4,5,6,7,8,9,10,11,12,13,14,15,16,17,18],[],[0,1,2,3,4,5,6,7,8,9,10,11,12,13,14,15,16,17,18,19,20]] (by kernel_rfl) ?_
    refine d_op ?_
    refine x_run0 [(9,pI 0)] [] rfl rfl rfl rfl (s_move rfl ⟨rfl,rfl,rfl⟩) ?_
    refine d_op ?_
    refine x_run0 [(9,pI 0)] [] rfl rfl rfl rfl (s_move rfl ⟨rfl,rfl,rfl⟩) ?_
    refine d_op ?_
    refine xL [(7,PV.ptr 3 0),(33,pI 0)] [1] [(3,.obj [pI v0,pI v1,pI v2,pI v3])] rfl rfl rfl rfl rfl (s_ia_arrN (q := 0) tab_145 rfl tab_3 rfl (by omega) rfl (by omega) ⟨rfl,rfl,rfl⟩) ⟨rfl,trivial⟩ rfl ?_
    refine d_op ?_
    refine xL [(34,PV.ptr 3 0)] [1,2] [(3,.obj [pI v0,pI v1,pI v2,pI v3])] rfl rfl rfl rfl rfl (s_load_ptr1 tab_3 rfl rfl rfl rfl rfl ⟨rfl,rfl,rfl⟩) ⟨rfl,trivial⟩ rfl ?_
    refine d_op ?_
    refine xT [] [] [] [(5,oB true 1 encI ([0,0,0,5] : List Int))] [(0,.obj [pS 1 false encI L,pN (tStep L ap 6)]),(4,oB true 1 encI ([3,0,3,1,2,3] : List Int)),(1,oB true 4 eWindow os),(2,.obj [pI f0,pI f1,pI f2,pI f3]),(3,.obj [pI v0,pI v1,pI v2,pI v3])] rfl rfl rfl rfl rfl (s_mkM (f := encI) ([0,0,0,5] : List Int) tab_24 rfl tab_3 ⟨rfl,by decide⟩ (by decide) rfl rfl rfl rfl ⟨rfl,rfl,rfl⟩) rfl rfl ?_
    refine d_op ?_
    refine x_run0 [(0,PV.ptr 0 0)] [] rfl rfl rfl rfl (s_move rfl ⟨rfl,rfl,rfl⟩) ?_
    refine d_op ?_
    refine xT [(37,PV.ptr 0 0)] [5] [(0,.obj [pS 1 false encI L,pN (tStep L ap 6)])] [(0,.obj [pS 1 false encI L,pN (tStep L (tStep L ap 6) 4)])] [(5,oB true 1 encI ([0,0,0,5] : List Int)),(4,oB true 1 encI ([3,0,3,1,2,3] : List Int)),(1,oB true 4 eWindow os),(2,.obj [pI f0,pI f1,pI f2,pI f3]),(3,.obj [pI v0,pI v1,pI v2,pI v3])] rfl rfl rfl rfl rfl (s_callX (r2 := pI (tNext L (tStep L ap 6) 4)) (nx1 := 6) (H2 := [(0,.obj [pS 1 false encI L,pN (tStep L ap 6)])]) (H3 := [(0,.obj [pS 1 false encI L,pN (tStep L (tStep L ap 6) 4)])]) [0] [.obj [pS 1 false encI L,pN (tStep L ap 6)]] rfl rfl rfl (handed_of (by decide) ⟨rfl,trivial⟩) rfl rfl rfl rfl rfl rfl (w_burgagekeep_Tape_Next L false (tStep L ap 6) 4 (by omega) (by omega)) rfl (dist_of rfl) rfl rfl rfl rfl ⟨rfl,rfl,rfl⟩) rfl rfl ?_
    have hb38 := tNext_lt L (tStep L ap 6) (n := 4) (by decide)
    refine d_op ?_
    refine xL [(36,PV.ref 5 0 none),(38,pI (tNext L (tStep L ap 6) 4))] [4,5,6] [(5,oB true 1 encI ([0,0,0,5] : List Int))] rfl rfl rfl rfl rfl (s_iaR0 (q := Int.toNat (tNext L (tStep L ap 6) 4)) (f := encI) (l := ([0,0,0,5] : List Int)) tab_24 rfl tab_3 rfl rfl (by omega) rfl rfl (by simp; omega) ⟨rfl,rfl,rfl⟩) ⟨rfl,trivial⟩ rfl ?_
    refine d_op ?_
    obtain ⟨e2,he2⟩ := get_of_lt ([0,0,0,5] : List Int) (i := Int.toNat (tNext L (tStep L ap 6) 4)) (by simp; omega)
    refine xL [(39,PV.ep 5 (Int.toNat (tNext L (tStep L ap 6) 4)) 0)] [4,5,6,7] [(5,oB true 1 encI ([0,0,0,5] : List Int))] rfl rfl rfl rfl rfl (s_ldM (b := e2) (f := encI) tab_3 rfl rfl rfl rfl he2 rfl ⟨rfl,rfl,rfl⟩) ⟨rfl,trivial⟩ rfl ?_
    have hd4 := List.mem_of_getElem? he2
    simp only [List.mem_cons,List.not_mem_nil,or_false] at hd4
    refine d_op ?_
    refine x_run0 [(35,pI v0),(40,pI e2)] [1,2,3,4,5,6,7,8] rfl rfl rfl rfl (s_addi (r := v0 + e2) rfl rfl rfl (by omega) ⟨rfl,rfl,rfl⟩) ?_
    refine d_op ?_
    refine x_run0 [(9,pI 0)] [] rfl rfl rfl rfl (s_move rfl ⟨rfl,rfl,rfl⟩) ?_
    refine d_op ?_
    refine xL [(6,PV.ptr 2 0),(42,pI 0)] [10] [(2,.obj [pI f0,pI f1,pI f2,pI f3])] rfl rfl rfl rfl rfl (s_ia_arrN (q := 0) tab_145 rfl tab_3 rfl (by omega) rfl (by omega) ⟨rfl,rfl,rfl⟩) ⟨rfl,trivial⟩ rfl ?_
    refine d_op ?_
    refine xL [(43,PV.ptr 2 0)] [10,11] [(2,.obj [pI f0,pI f1,pI f2,pI f3])] rfl rfl rfl rfl rfl (s_load_ptr1 tab_3 rfl rfl rfl rfl rfl ⟨rfl,rfl,rfl⟩) ⟨rfl,trivial⟩ rfl ?_
    refine d_op ?_
    refine x_run0 [(0,PV.ptr 0 0)] [] rfl rfl rfl rfl (s_move rfl ⟨rfl,rfl,rfl⟩) ?_
    refine d_op ?_
    refine xT [(45,PV.ptr 0 0)] [5,6,13] [(0,.obj [pS 1 false encI L,pN (tStep L (tStep L ap 6) 4)])] [(0,.obj [pS 1 false encI L,pN (tStep L (tStep L (tStep L ap 6) 4) 3)])] [(5,oB true 1 encI ([0,0,0,5] : List Int)),(4,oB true 1 encI ([3,0,3,1,2,3] : List Int)),(1,oB true 4 eWindow os),(2,.obj [pI f0,pI f1,pI f2,pI f3]),(3,.obj [pI v0,pI v1,pI v2,pI v3])] rfl rfl rfl rfl rfl (s_callX (r2 := pI (tNext L (tStep L (tStep L ap 6) 4) 3)) (nx1 := 6) (H2 := [(0,.obj [pS 1 false encI L,pN (tStep L (tStep L ap 6) 4)])]) (H3 := [(0,.obj [pS 1 false encI L,pN (tStep L (tStep L (tStep L ap 6) 4) 3)])]) [0] [.obj [pS 1 false encI L,pN (tStep L (tStep L ap 6) 4)]] rfl rfl rfl (handed_of (by decide) ⟨rfl,trivial⟩) rfl rfl rfl rfl rfl rfl (w_burgagekeep_Tape_Next L false (tStep L (tStep L ap 6) 4) 3 (by omega) (by omega)) rfl (dist_of rfl) rfl rfl rfl rfl ⟨rfl,rfl,rfl⟩) rfl rfl ?_
    have hb46 := tNext_lt L (tStep L (tStep L ap 6) 4) (n := 3) (by decide)
    refine d_op ?_
    refine x_run0 [(44,pI f0),(46,pI (tNext L (tStep L (tStep L ap 6) 4) 3))] [5,6,10,11,12,13,14] rfl rfl rfl rfl (s_addi (r := f0 + (tNext L (tStep L (tStep L ap 6) 4) 3)) rfl rfl rfl (by omega) ⟨rfl,rfl,rfl⟩) ?_
    refine d_op ?_
    refine x_run0 [(0,PV.ptr 0 0)] [] rfl rfl rfl rfl (s_move rfl ⟨rfl,rfl,rfl⟩) ?_
    refine d_op ?_
    refine xT [(48,PV.ptr 0 0)] [5,6,13,14,16] [(0,.obj [pS 1 false encI L,pN (tStep L (tStep L (tStep L ap 6) 4) 3)])] [(0,.obj [pS 1 false encI L,pN (tStep L (tStep L (tStep L (tStep L ap 6) 4) 3) 18)])] [(5,oB true 1 encI ([0,0,0,5] : List Int)),(4,oB true 1 encI ([3,0,3,1,2,3] : List Int)),(1,oB true 4 eWindow os),(2,.obj [pI f0,pI f1,pI f2,pI f3]),(3,.obj [pI v0,pI v1,pI v2,pI v3])] rfl rfl rfl rfl rfl (s_callX (r2 := pI (tNext L (tStep L (tStep L (tStep L ap 6) 4) 3) 18)) (nx1 := 6) (H2 := [(0,.obj [pS 1 false encI L,pN (tStep L (tStep L (tStep L ap 6) 4) 3)])]) (H3 := [(0,.obj [pS 1 false encI L,pN (tStep L (tStep L (tStep L (tStep L ap 6) 4) 3) 18)])]) [0] [.obj [pS 1 false encI L,pN (tStep L (tStep L (tStep L ap 6) 4) 3)]] rfl rfl rfl (handed_of (by decide) ⟨rfl,trivial⟩) rfl rfl rfl rfl rfl rfl (w_burgagekeep_Tape_Next L false (tStep L (tStep L (tStep L ap 6) 4) 3) 18 (by omega) (by omega)) rfl (dist_of rfl) rfl rfl rfl rfl ⟨rfl,rfl,rfl⟩) rfl rfl ?_
    have hb49 := tNext_lt L (tStep L (tStep L (tStep L ap 6) 4) 3) (n := 18) (by decide)
    refine d_op ?_
    refine x_run0 [(49,pI (tNext L (tStep L (tStep L (tStep L ap 6) 4) 3) 18))] [5,6,13,14,16,17] rfl rfl rfl rfl (s_addi (r := 1 + (tNext L (tStep L (tStep L (tStep L ap 6) 4) 3) 18)) rfl rfl rfl (by omega) ⟨rfl,rfl,rfl⟩) ?_
    refine d_op ?_
    refine x_run0 [(32,pI 0),(41,pI (v0 + e2)),(47,pI (f0 + (tNext L (tStep L (tStep L ap 6) 4) 3))),(50,pI (1 + (tNext L (tStep L (tStep L (tStep L ap 6) 4) 3) 18)))] [0,1,2,3,4,5,6,7,8,9,10,11,12,13,14,15,16,17,18] rfl rfl rfl rfl (s_build tab_28 rfl rfl (b_cons rfl tab_3 rfl rfl rfl (Nat.le_of_ble_eq_true rfl) (b_cons rfl tab_3 rfl rfl rfl (Nat.le_of_ble_eq_true rfl) (b_cons rfl tab_3 rfl rfl rfl (Nat.le_of_ble_eq_true rfl) (b_cons rfl tab_3 rfl rfl rfl (Nat.le_of_ble_eq_true rfl) (b_nilN (cs' := [pI 0,pI (v0 + e2),pI (f0 + (tNext L (tStep L (tStep L ap 6) 4) 3)),pI (1 + (tNext L (tStep L (tStep L (tStep L ap 6) 4) 3) 18))]) rfl ⟨rfl,rfl,rfl⟩)))))) ?_
    refine d_op ?_
    refine xT [] [] [] [(6,.obj [pI 0,pI 0,pI 0,pI 0])] [(0,.obj [pS 1 false encI L,pN (tStep L (tStep L (tStep L (tStep L ap 6) 4) 3) 18)]),(5,oB true 1 encI ([0,0,0,5] : List Int)),(4,oB true 1 encI ([3,0,3,1,2,3] : List Int)),(1,oB true 4 eWindow os),(2,.obj [pI f0,pI f1,pI f2,pI f3]),(3,.obj [pI v0,pI v1,pI v2,pI v3])] rfl rfl rfl rfl rfl (s_alloc tab_28 ⟨rfl,rfl,rfl⟩) rfl rfl ?_
    refine d_op ?_
    refine xT [(10,PV.ptr 6 0),(51,PV.f (.agg [encI 0,encI (v0 + e2),encI (f0 + (tNext L (tStep L (tStep L ap 6) 4) 3)),encI (1 + (tNext L (tStep L (tStep L (tStep L ap 6) 4) 3) 18))]))] [0,1,2,3,4,5,6,7,8,9,10,11,12,13,14,15,16,17,18,19,20] [(6,.obj [pI 0,pI 0,pI 0,pI 0])] [(6,.obj [pI 0,pI (v0 + e2),pI (f0 + (tNext L (tStep L (tStep L ap 6) 4) 3)),pI (1 + (tNext L (tStep L (tStep L (tStep L ap 6) 4) 3) 18))])] [(0,.obj [pS 1 false encI L,pN (tStep L (tStep L (tStep L (tStep L ap 6) 4) 3) 18)]),(5,oB true 1 encI ([0,0,0,5] : List Int)),(4,oB true 1 encI ([3,0,3,1,2,3] : List Int)),(1,oB true 4 eWindow os),(2,.obj [pI f0,pI f1,pI f2,pI f3]),(3,.obj [pI v0,pI v1,pI v2,pI v3])] rfl rfl rfl rfl rfl (s_store_ptr tab_28 rfl rfl rfl rfl rfl (Nat.le_of_ble_eq_true rfl) ⟨rfl,rfl,rfl⟩) rfl rfl ?_
    refine d_end ⟨by kernel_rfl, ?_⟩
    refine q_then ?_
    refine w_seq ?_
    refine W_drawn tabOk mixed hnt [[],[],[],[2],[],[4],[2,3,4,5],[],[7],[],[9],[7,8,9,10],[0,2,3,4,5,6],[0,2,3,4,5,6,12],[0,1,2,3,4,5,6,7,8,9,10,11,12,13],[0,1,2,3,4,5,6,7,8,9,10,11,12,13,14]] (by kernel_rfl) ?_
    refine d_op ?_
    refine x_run0 [(9,pI 0)] [] rfl rfl rfl rfl (s_move rfl ⟨rfl,rfl,rfl⟩) ?_
    refine d_op ?_
    refine x_run0 [(9,pI 0)] [] rfl rfl rfl rfl (s_move rfl ⟨rfl,rfl,rfl⟩) ?_
    refine d_op ?_
    refine x_run0 [(10,PV.ptr 6 0)] [] rfl rfl rfl rfl (s_fa_ptr tab_28 rfl rfl tab_3 (by decide) rfl ⟨rfl,rfl,rfl⟩) ?_
    refine d_op ?_
    refine xL [(54,PV.ptr 6 1)] [2] [(6,.obj [pI 0,pI (v0 + e2),pI (f0 + (tNext L (tStep L (tStep L ap 6) 4) 3)),pI (1 + (tNext L (tStep L (tStep L (tStep L ap 6) 4) 3) 18))])] rfl rfl rfl rfl rfl (s_load_ptr1 tab_3 rfl rfl rfl rfl rfl ⟨rfl,rfl,rfl⟩) ⟨rfl,trivial⟩ rfl ?_
    refine d_op ?_
    refine x_run0 [(10,PV.ptr 6 0)] [] rfl rfl rfl rfl (s_fa_ptr tab_28 rfl rfl tab_3 (by decide) rfl ⟨rfl,rfl,rfl⟩) ?_
    refine d_op ?_
    refine xL [(56,PV.ptr 6 3)] [4] [(6,.obj [pI 0,pI (v0 + e2),pI (f0 + (tNext L (tStep L (tStep L ap 6) 4) 3)),pI (1 + (tNext L (tStep L (tStep L (tStep L ap 6) 4) 3) 18))])] rfl rfl rfl rfl rfl (s_load_ptr1 tab_3 rfl rfl rfl rfl rfl ⟨rfl,rfl,rfl⟩) ⟨rfl,trivial⟩ rfl ?_
    refine d_op ?_
    refine x_run0 [(55,pI (v0 + e2)),(57,pI (1 + (tNext L (tStep L (tStep L (tStep L ap 6) 4) 3) 18)))] [2,3,4,5] rfl rfl rfl rfl (s_addi (r := (v0 + e2) + (1 + (tNext L (tStep L (tStep L (tStep L ap 6) 4) 3) 18))) rfl rfl rfl (by omega) ⟨rfl,rfl,rfl⟩) ?_
    refine d_op ?_
    refine x_run0 [(10,PV.ptr 6 0)] [] rfl rfl rfl rfl (s_fa_ptr tab_28 rfl rfl tab_3 (by decide) rfl ⟨rfl,rfl,rfl⟩) ?_
    refine d_op ?_
    refine xL [(59,PV.ptr 6 2)] [7] [(6,.obj [pI 0,pI (v0 + e2),pI (f0 + (tNext L (tStep L (tStep L ap 6) 4) 3)),pI (1 + (tNext L (tStep L (tStep L (tStep L ap 6) 4) 3) 18))])] rfl rfl rfl rfl rfl (s_load_ptr1 tab_3 rfl rfl rfl rfl rfl ⟨rfl,rfl,rfl⟩) ⟨rfl,trivial⟩ rfl ?_
    refine d_op ?_
    refine x_run0 [(10,PV.ptr 6 0)] [] rfl rfl rfl rfl (s_fa_ptr tab_28 rfl rfl tab_3 (by decide) rfl ⟨rfl,rfl,rfl⟩) ?_
    refine d_op ?_
    refine xL [(61,PV.ptr 6 3)] [9] [(6,.obj [pI 0,pI (v0 + e2),pI (f0 + (tNext L (tStep L (tStep L ap 6) 4) 3)),pI (1 + (tNext L (tStep L (tStep L (tStep L ap 6) 4) 3) 18))])] rfl rfl rfl rfl rfl (s_load_ptr1 tab_3 rfl rfl rfl rfl rfl ⟨rfl,rfl,rfl⟩) ⟨rfl,trivial⟩ rfl ?_
    refine d_op ?_
    refine x_run0 [(60,pI (f0 + (tNext L (tStep L (tStep L ap 6) 4) 3))),(62,pI (1 + (tNext L (tStep L (tStep L (tStep L ap 6) 4) 3) 18)))] [7,8,9,10] rfl rfl rfl rfl (s_addi (r := (f0 + (tNext L (tStep L (tStep L ap 6) 4) 3)) + (1 + (tNext L (tStep L (tStep L (tStep L ap 6) 4) 3) 18))) rfl rfl rfl (by omega) ⟨rfl,rfl,rfl⟩) ?_
    refine d_op ?_
    refine xL [(7,PV.ptr 3 0),(52,pI 0)] [0,2,3,4,5,6] [(3,.obj [pI v0,pI v1,pI v2,pI v3])] rfl rfl rfl rfl rfl (s_ia_arrN (q := 0) tab_145 rfl tab_3 rfl (by omega) rfl (by omega) ⟨rfl,rfl,rfl⟩) ⟨rfl,trivial⟩ rfl ?_
    refine d_op ?_
    refine xT [(64,PV.ptr 3 0),(58,pI ((v0 + e2) + (1 + (tNext L (tStep L (tStep L (tStep L ap 6) 4) 3) 18))))] [0,2,3,4,5,6,12] [(3,.obj [pI v0,pI v1,pI v2,pI v3])] [(3,.obj [pI ((v0 + e2) + (1 + (tNext L (tStep L (tStep L (tStep L ap 6) 4) 3) 18))),pI v1,pI v2,pI v3])] [(6,.obj [pI 0,pI (v0 + e2),pI (f0 + (tNext L (tStep L (tStep L ap 6) 4) 3)),pI (1 + (tNext L (tStep L (tStep L (tStep L ap 6) 4) 3) 18))]),(0,.obj [pS 1 false encI L,pN (tStep L (tStep L (tStep L (tStep L ap 6) 4) 3) 18)]),(5,oB true 1 encI ([0,0,0,5] : List Int)),(4,oB true 1 encI ([3,0,3,1,2,3] : List Int)),(1,oB true 4 eWindow os),(2,.obj [pI f0,pI f1,pI f2,pI f3])] rfl rfl rfl rfl rfl (s_store_ptr tab_3 rfl rfl rfl rfl rfl (Nat.le_of_ble_eq_true rfl) ⟨rfl,rfl,rfl⟩) rfl rfl ?_
    refine d_op ?_
    refine xL [(6,PV.ptr 2 0),(53,pI 0)] [0,1,2,3,4,5,6,7,8,9,10,11,12,13] [(2,.obj [pI f0,pI f1,pI f2,pI f3])] rfl rfl rfl rfl rfl (s_ia_arrN (q := 0) tab_145 rfl tab_3 rfl (by omega) rfl (by omega) ⟨rfl,rfl,rfl⟩) ⟨rfl,trivial⟩ rfl ?_
    refine d_op ?_
    refine xT [(65,PV.ptr 2 0),(63,pI ((f0 + (tNext L (tStep L (tStep L ap 6) 4) 3)) + (1 + (tNext L (tStep L (tStep L (tStep L ap 6) 4) 3) 18))))] [0,1,2,3,4,5,6,7,8,9,10,11,12,13,14] [(2,.obj [pI f0,pI f1,pI f2,pI f3])] [(2,.obj [pI ((f0 + (tNext L (tStep L (tStep L ap 6) 4) 3)) + (1 + (tNext L (tStep L (tStep L (tStep L ap 6) 4) 3) 18))),pI f1,pI f2,pI f3])] [(3,.obj [pI ((v0 + e2) + (1 + (tNext L (tStep L (tStep L (tStep L ap 6) 4) 3) 18))),pI v1,pI v2,pI v3]),(6,.obj [pI 0,pI (v0 + e2),pI (f0 + (tNext L (tStep L (tStep L ap 6) 4) 3)),pI (1 + (tNext L (tStep L (tStep L (tStep L ap 6) 4) 3) 18))]),(0,.obj [pS 1 false encI L,pN (tStep L (tStep L (tStep L (tStep L ap 6) 4) 3) 18)]),(5,oB true 1 encI ([0,0,0,5] : List Int)),(4,oB true 1 encI ([3,0,3,1,2,3] : List Int)),(1,oB true 4 eWindow os)] rfl rfl rfl rfl rfl (s_store_ptr tab_3 rfl rfl rfl rfl rfl (Nat.le_of_ble_eq_true rfl) ⟨rfl,rfl,rfl⟩) rfl rfl ?_
    refine d_end ⟨by kernel_rfl, ?_⟩
    refine q_then ?_
    refine w_R ?_
    refine qm hnt rfl rfl ?_
    refine qo hnt rfl (s_load_ptr tab_28 rfl rfl rfl (Nat.le_of_ble_eq_true rfl) ?_)
    refine qo hnt rfl (s_mkM (f := eWindow) [(⟨0,v0 + e2,f0 + (tNext L (tStep L (tStep L ap 6) 4) 3),1 + (tNext L (tStep L (tStep L (tStep L ap 6) 4) 3) 18)⟩ : TWindow)] tab_22 rfl tab_28 ⟨rfl,by decide⟩ (by decide) rfl rfl rfl rfl ?_)
    refine qo hnt rfl (s_appR0 (f := eWindow) (l := os) (xs := [(⟨0,v0 + e2,f0 + (tNext L (tStep L (tStep L ap 6) 4) 3),1 + (tNext L (tStep L (tStep L (tStep L ap 6) 4) 3) 18)⟩ : TWindow)]) tab_22 rfl tab_28 ⟨rfl,by decide,by decide⟩ (srcM tab_22 rfl (hM_ref0 (f := eWindow) rfl rfl)) rfl rfl (by (simp; omega)) ?_)
    refine qa hnt rfl rfl ?_
    refine r_set [(0,PV.ptr 0 0),(5,PV.ref 8 0 none),(6,PV.ptr 2 0),(7,PV.ptr 3 0),(8,pI kk)] [(8,oB true 4 eWindow (os ++ [(⟨0,v0 + e2,f0 + (tNext L (tStep L (tStep L ap 6) 4) 3),1 + (tNext L (tStep L (tStep L (tStep L ap 6) 4) 3) 18)⟩ : TWindow)])),(7,oB true 4 eWindow [(⟨0,v0 + e2,f0 + (tNext L (tStep L (tStep L ap 6) 4) 3),1 + (tNext L (tStep L (tStep L (tStep L ap 6) 4) 3) 18)⟩ : TWindow)]),(2,.obj [pI ((f0 + (tNext L (tStep L (tStep L ap 6) 4) 3)) + (1 + (tNext L (tStep L (tStep L (tStep L ap 6) 4) 3) 18))),pI f1,pI f2,pI f3]),(3,.obj [pI ((v0 + e2) + (1 + (tNext L (tStep L (tStep L (tStep L ap 6) 4) 3) 18))),pI v1,pI v2,pI v3]),(6,.obj [pI 0,pI (v0 + e2),pI (f0 + (tNext L (tStep L (tStep L ap 6) 4) 3)),pI (1 + (tNext L (tStep L (tStep L (tStep L ap 6) 4) 3) 18))]),(0,.obj [pS 1 false encI L,pN (tStep L (tStep L (tStep L (tStep L ap 6) 4) 3) 18)]),(5,oB true 1 encI ([0,0,0,5] : List Int)),(4,oB true 1 encI ([3,0,3,1,2,3] : List Int))] 9 ⟨rfl,rfl,rfl,rfl,rfl,trivial⟩ rfl rfl ?_
    refine r_end ?_
    refine q_block ?_
    refine q_then ?_
    refine w_R ?_
    refine qm hnt rfl rfl ?_
    refine qo hnt rfl (s_subi (r := kk - 1) rfl rfl rfl (by omega) ?_)
    refine qa hnt rfl rfl ?_
    refine r_end ?_
    refine q_then ?_
    refine ⟨(tStep L (tStep L (tStep L (tStep L ap 6) 4) 3) 18),(os ++ [(⟨0,v0 + e2,f0 + (tNext L (tStep L (tStep L ap 6) 4) 3),1 + (tNext L (tStep L (tStep L (tStep L ap 6) 4) 3) 18)⟩ : TWindow)]),((f0 + (tNext L (tStep L (tStep L ap 6) 4) 3)) + (1 + (tNext L (tStep L (tStep L (tStep L ap 6) 4) 3) 18))),(f1),(f2),(f3),((v0 + e2) + (1 + (tNext L (tStep L (tStep L (tStep L ap 6) 4) 3) 18))),(v1),(v2),(v3),(kk - 1), ?_, ?_,⟨[(0,0),(1,8),(2,2),(3,3)],by rw [hk]; decide,⟨⟨_,rfl,rfl,rfl⟩,⟨_,rfl,rfl,rfl⟩,⟨_,rfl,rfl,rfl⟩,⟨_,rfl,rfl,rfl⟩,⟨_,rfl,rfl,rfl⟩,trivial⟩,⟨⟨_,_,rfl,rfl,rfl,rfl⟩,⟨_,_,rfl,rfl,rfl,rfl⟩,⟨_,_,rfl,rfl,rfl,rfl⟩,⟨_,_,rfl,rfl,rfl,rfl⟩,trivial⟩,by rw [hk]; decide⟩⟩
    ·
     refine ⟨by simp; omega,by omega, ?_⟩
     exact hW.step0 (by omega) (by omega) (by omega)
    · omega
   ·
    refine w_eq (s := 9) (y := pI 1) rfl (congrArg pI hs1) ?_
    refine W_drawn tabOk mixed hnt [[],[],[1],[1,2],[],[],[5],[4,5,6],[4,5,6,7],[1,2,3,4,5,6,7,8],[],[10],[10,11],[],[5,6,13],[5,6,10,11,12,13,14],[],[5,6,13,14,16],[5,6,13,14,16,17],[0,1,2,3,4,5,6,7,8,9,10,11,12,13,14,15,16,17,18],[],[0,1,2,3,4,5,6,7,8,9,10,11,12,13,14,15,16,17,18,19,20]] (by kernel_rfl) ?_
    refine d_op ?_
    refine x_run0 [(9,pI 1)] [] rfl rfl rfl rfl (s_move rfl ⟨rfl,rfl,rfl⟩) ?_
    refine d_op ?_
    refine x_run0 [(9,pI 1)] [] rfl rfl rfl rfl (s_move rfl ⟨rfl,rfl,rfl⟩) ?_
    refine d_op ?_
    refine xL [(7,PV.ptr 3 0),(33,pI 1)] [1] [(3,.obj [pI v0,pI v1,pI v2,pI v3])] rfl rfl rfl rfl rfl (s_ia_arrN (q := 1) tab_145 rfl tab_3 rfl (by omega) rfl (by omega) ⟨rfl,rfl,rfl⟩) ⟨rfl,trivial⟩ rfl ?_
    refine d_op ?_
    refine xL [(34,PV.ptr 3 1)] [1,2] [(3,.obj [pI v0,pI v1,pI v2,pI v3])] rfl rfl rfl rfl rfl (s_load_ptr1 tab_3 rfl rfl rfl rfl rfl ⟨rfl,rfl,rfl⟩) ⟨rfl,trivial⟩ rfl ?_
    refine d_op ?_
    refine xT [] [] [] [(5,oB true 1 encI ([0,0,0,5] : List Int))] [(0,.obj [pS 1 false encI L,pN (tStep L ap 6)]),(4,oB true 1 encI ([3,0,3,1,2,3] : List Int)),(1,oB true 4 eWindow os),(2,.obj [pI f0,pI f1,pI f2,pI f3]),(3,.obj [pI v0,pI v1,pI v2,pI v3])] rfl rfl rfl rfl rfl (s_mkM (f := encI) ([0,0,0,5] : List Int) tab_24 rfl tab_3 ⟨rfl,by decide⟩ (by decide) rfl rfl rfl rfl ⟨rfl,rfl,rfl⟩) rfl rfl ?_
    refine d_op ?_
    refine x_run0 [(0,PV.ptr 0 0)] [] rfl rfl rfl rfl (s_move rfl ⟨rfl,rfl,rfl⟩) ?_
    refine d_op ?_
    refine xT [(37,PV.ptr 0 0)] [5] [(0,.obj [pS 1 false encI L,pN (tStep L ap 6)])] [(0,.obj [pS 1 false encI L,pN (tStep L (tStep L ap 6) 4)])] [(5,oB true 1 encI ([0,0,0,5] : List Int)),(4,oB true 1 encI ([3,0,3,1,2,3] : List Int)),(1,oB true 4 eWindow os),(2,.obj [pI f0,pI f1,pI f2,pI f3]),(3,.obj [pI v0,pI v1,pI v2,pI v3])] rfl rfl rfl rfl rfl (s_callX (r2 := pI (tNext L (tStep L ap 6) 4)) (nx1 := 6) (H2 := [(0,.obj [pS 1 false encI L,pN (tStep L ap 6)])]) (H3 := [(0,.obj [pS 1 false encI L,pN (tStep L (tStep L ap 6) 4)])]) [0] [.obj [pS 1 false encI L,pN (tStep L ap 6)]] rfl rfl rfl (handed_of (by decide) ⟨rfl,trivial⟩) rfl rfl rfl rfl rfl rfl (w_burgagekeep_Tape_Next L false (tStep L ap 6) 4 (by omega) (by omega)) rfl (dist_of rfl) rfl rfl rfl rfl ⟨rfl,rfl,rfl⟩) rfl rfl ?_
    have hb38 := tNext_lt L (tStep L ap 6) (n := 4) (by decide)
    refine d_op ?_
    refine xL [(36,PV.ref 5 0 none),(38,pI (tNext L (tStep L ap 6) 4))] [4,5,6] [(5,oB true 1 encI ([0,0,0,5] : List Int))] rfl rfl rfl rfl rfl (s_iaR0 (q := Int.toNat (tNext L (tStep L ap 6) 4)) (f := encI) (l := ([0,0,0,5] : List Int)) tab_24 rfl tab_3 rfl rfl (by omega) rfl rfl (by simp; omega) ⟨rfl,rfl,rfl⟩) ⟨rfl,trivial⟩ rfl ?_
    refine d_op ?_
    obtain ⟨e3,he3⟩ := get_of_lt ([0,0,0,5] : List Int) (i := Int.toNat (tNext L (tStep L ap 6) 4)) (by simp; omega)
    refine xL [(39,PV.ep 5 (Int.toNat (tNext L (tStep L ap 6) 4)) 0)] [4,5,6,7] [(5,oB true 1 encI ([0,0,0,5] : List Int))] rfl rfl rfl rfl rfl (s_ldM (b := e3) (f := encI) tab_3 rfl rfl rfl rfl he3 rfl ⟨rfl,rfl,rfl⟩) ⟨rfl,trivial⟩ rfl ?_
    have hd4 := List.mem_of_getElem? he3
    simp only [List.mem_cons,List.not_mem_nil,or_false] at hd4
    refine d_op ?_
    refine x_run0 [(35,pI v1),(40,pI e3)] [1,2,3,4,5,6,7,8] rfl rfl rfl rfl (s_addi (r := v1 + e3) rfl rfl rfl (by omega) ⟨rfl,rfl,rfl⟩) ?_
    refine d_op ?_
    refine x_run0 [(9,pI 1)] [] rfl rfl rfl rfl (s_move rfl ⟨rfl,rfl,rfl⟩) ?_
    refine d_op ?_
    refine xL [(6,PV.ptr 2 0),(42,pI 1)] [10] [(2,.obj [pI f0,pI f1,pI f2,pI f3])] rfl rfl rfl rfl rfl (s_ia_arrN (q := 1) tab_145 rfl tab_3 rfl (by omega) rfl (by omega) ⟨rfl,rfl,rfl⟩) ⟨rfl,trivial⟩ rfl ?_
    refine d_op ?_
    refine xL [(43,PV.ptr 2 1)] [10,11] [(2,.obj [pI f0,pI f1,pI f2,pI f3])] rfl rfl rfl rfl rfl (s_load_ptr1 tab_3 rfl rfl rfl rfl rfl ⟨rfl,rfl,rfl⟩) ⟨rfl,trivial⟩ rfl ?_
    refine d_op ?_
    refine x_run0 [(0,PV.ptr 0 0)] [] rfl rfl rfl rfl (s_move rfl ⟨rfl,rfl,rfl⟩) ?_
    refine d_op ?_
    refine xT [(45,PV.ptr 0 0)] [5,6,13] [(0,.obj [pS 1 false encI L,pN (tStep L (tStep L ap 6) 4)])] [(0,.obj [pS 1 false encI L,pN (tStep L (tStep L (tStep L ap 6) 4) 3)])] [(5,oB true 1 encI ([0,0,0,5] : List Int)),(4,oB true 1 encI ([3,0,3,1,2,3] : List Int)),(1,oB true 4 eWindow os),(2,.obj [pI f0,pI f1,pI f2,pI f3]),(3,.obj [pI v0,pI v1,pI v2,pI v3])] rfl rfl rfl rfl rfl (s_callX (r2 := pI (tNext L (tStep L (tStep L ap 6) 4) 3)) (nx1 := 6) (H2 := [(0,.obj [pS 1 false encI L,pN (tStep L (tStep L ap 6) 4)])]) (H3 := [(0,.obj [pS 1 false encI L,pN (tStep L (tStep L (tStep L ap 6) 4) 3)])]) [0] [.obj [pS 1 false encI L,pN (tStep L (tStep L ap 6) 4)]] rfl rfl rfl (handed_of (by decide) ⟨rfl,trivial⟩) rfl rfl rfl rfl rfl rfl (w_burgagekeep_Tape_Next L false (tStep L (tStep L ap 6) 4) 3 (by omega) (by omega)) rfl (dist_of rfl) rfl rfl rfl rfl ⟨rfl,rfl,rfl⟩) rfl rfl ?_
    have hb46 := tNext_lt L (tStep L (tStep L ap 6) 4) (n := 3) (by decide)
    refine d_op ?_
    refine x_run0 [(44,pI f1),(46,pI (tNext L (tStep L (tStep L ap 6) 4) 3))] [5,6,10,11,12,13,14] rfl rfl rfl rfl (s_addi (r := f1 + (tNext L (tStep L (tStep L ap 6) 4) 3)) rfl rfl rfl (by omega) ⟨rfl,rfl,rfl⟩) ?_
    refine d_op ?_
    refine x_run0 [(0,PV.ptr 0 0)] [] rfl rfl rfl rfl (s_move rfl ⟨rfl,rfl,rfl⟩) ?_
    refine d_op ?_
    refine xT [(48,PV.ptr 0 0)] [5,6,13,14,16] [(0,.obj [pS 1 false encI L,pN (tStep L (tStep L (tStep L ap 6) 4) 3)])] [(0,.obj [pS 1 false encI L,pN (tStep L (tStep L (tStep L (tStep L ap 6) 4) 3) 18)])] [(5,oB true 1 encI ([0,0,0,5] : List Int)),(4,oB true 1 encI ([3,0,3,1,2,3] : List Int)),(1,oB true 4 eWindow os),(2,.obj [pI f0,pI f1,pI f2,pI f3]),(3,.obj [pI v0,pI v1,pI v2,pI v3])] rfl rfl rfl rfl rfl (s_callX (r2 := pI (tNext L (tStep L (tStep L (tStep L ap 6) 4) 3) 18)) (nx1 := 6) (H2 := [(0,.obj [pS 1 false encI L,pN (tStep L (tStep L (tStep L ap 6) 4) 3)])]) (H3 := [(0,.obj [pS 1 false encI L,pN (tStep L (tStep L (tStep L (tStep L ap 6) 4) 3) 18)])]) [0] [.obj [pS 1 false encI L,pN (tStep L (tStep L (tStep L ap 6) 4) 3)]] rfl rfl rfl (handed_of (by decide) ⟨rfl,trivial⟩) rfl rfl rfl rfl rfl rfl (w_burgagekeep_Tape_Next L false (tStep L (tStep L (tStep L ap 6) 4) 3) 18 (by omega) (by omega)) rfl (dist_of rfl) rfl rfl rfl rfl ⟨rfl,rfl,rfl⟩) rfl rfl ?_
    have hb49 := tNext_lt L (tStep L (tStep L (tStep L ap 6) 4) 3) (n := 18) (by decide)
    refine d_op ?_
    refine x_run0 [(49,pI (tNext L (tStep L (tStep L (tStep L ap 6) 4) 3) 18))] [5,6,13,14,16,17] rfl rfl rfl rfl (s_addi (r := 1 + (tNext L (tStep L (tStep L (tStep L ap 6) 4) 3) 18)) rfl rfl rfl (by omega) ⟨rfl,rfl,rfl⟩) ?_
    refine d_op ?_
    refine x_run0 [(32,pI 1),(41,pI (v1 + e3)),(47,pI (f1 + (tNext L (tStep L (tStep L ap 6) 4) 3))),(50,pI (1 + (tNext L (tStep L (tStep L (tStep L ap 6) 4) 3) 18)))] [0,1,2,3,4,5,6,7,8,9,10,11,12,13,14,15,16,17,18] rfl rfl rfl rfl (s_build tab_28 rfl rfl (b_cons rfl tab_3 rfl rfl rfl (Nat.le_of_ble_eq_true rfl) (b_cons rfl tab_3 rfl rfl rfl (Nat.le_of_ble_eq_true rfl) (b_cons rfl tab_3 rfl rfl rfl (Nat.le_of_ble_eq_true rfl) (b_cons rfl tab_3 rfl rfl rfl (Nat.le_of_ble_eq_true rfl) (b_nilN (cs' := [pI 1,pI (v1 + e3),pI (f1 + (tNext L (tStep L (tStep L ap 6) 4) 3)),pI (1 + (tNext L (tStep L (tStep L (tStep L ap 6) 4) 3) 18))]) rfl ⟨rfl,rfl,rfl⟩)))))) ?_
    refine d_op ?_
    refine xT [] [] [] [(6,.obj [pI 0,pI 0,pI 0,pI 0])] [(0,.obj [pS 1 false encI L,pN (tStep L (tStep L (tStep L (tStep L ap 6) 4) 3) 18)]),(5,oB true 1 encI ([0,0,0,5] : List Int)),(4,oB true 1 encI ([3,0,3,1,2,3] : List Int)),(1,oB true 4 eWindow os),(2,.obj [pI f0,pI f1,pI f2,pI f3]),(3,.obj [pI v0,pI v1,pI v2,pI v3])] rfl rfl rfl rfl rfl (s_alloc tab_28 ⟨rfl,rfl,rfl⟩) rfl rfl ?_
    refine d_op ?_
    refine xT [(10,PV.ptr 6 0),(51,PV.f (.agg [encI 1,encI (v1 + e3),encI (f1 + (tNext L (tStep L (tStep L ap 6) 4) 3)),encI (1 + (tNext L (tStep L (tStep L (tStep L ap 6) 4) 3) 18))]))] [0,1,2,3,4,5,6,7,8,9,10,11,12,13,14,15,16,17,18,19,20] [(6,.obj [pI 0,pI 0,pI 0,pI 0])] [(6,.obj [pI 1,pI (v1 + e3),pI (f1 + (tNext L (tStep L (tStep L ap 6) 4) 3)),pI (1 + (tNext L (tStep L (tStep L (tStep L ap 6) 4) 3) 18))])] [(0,.obj [pS 1 false encI L,pN (tStep L (tStep L (tStep L (tStep L ap 6) 4) 3) 18)]),(5,oB true 1 encI ([0,0,0,5] : List Int)),(4,oB true 1 encI ([3,0,3,1,2,3] : List Int)),(1,oB true 4 eWindow os),(2,.obj [pI f0,pI f1,pI f2,pI f3]),(3,.obj [pI v0,pI v1,pI v2,pI v3])] rfl rfl rfl rfl rfl (s_store_ptr tab_28 rfl rfl rfl rfl rfl (Nat.le_of_ble_eq_true rfl) ⟨rfl,rfl,rfl⟩) rfl rfl ?_
    refine d_end ⟨by kernel_rfl, ?_⟩
    refine q_then ?_
    refine w_seq ?_
    refine W_drawn tabOk mixed hnt [[],[],[],[2],[],[4],[2,3,4,5],[],[7],[],[9],[7,8,9,10],[0,2,3,4,5,6],[0,2,3,4,5,6,12],[0,1,2,3,4,5,6,7,8,9,10,11,12,13],[0,1,2,3,4,5,6,7,8,9,10,11,12,13,14]] (by kernel_rfl) ?_
    refine d_op ?_
    refine x_run0 [(9,pI 1)] [] rfl rfl rfl rfl (s_move rfl ⟨rfl,rfl,rfl⟩) ?_
    refine d_op ?_
    refine x_run0 [(9,pI 1)] [] rfl rfl rfl rfl (s_move rfl ⟨rfl,rfl,rfl⟩) ?_
    refine d_op ?_
    refine x_run0 [(10,PV.ptr 6 0)] [] rfl rfl rfl rfl (s_fa_ptr tab_28 rfl rfl tab_3 (by decide) rfl ⟨rfl,rfl,rfl⟩) ?_
    refine d_op ?_
    refine xL [(54,PV.ptr 6 1)] [2] [(6,.obj [pI 1,pI (v1 + e3),pI (f1 + (tNext L (tStep L (tStep L ap 6) 4) 3)),pI (1 + (tNext L (tStep L (tStep L (tStep L ap 6) 4) 3) 18))])] rfl rfl rfl rfl rfl (s_load_ptr1 tab_3 rfl rfl rfl rfl rfl ⟨rfl,rfl,rfl⟩) ⟨rfl,trivial⟩ rfl ?_
    refine d_op ?_
    refine x_run0 [(10,PV.ptr 6 0)] [] rfl rfl rfl rfl (s_fa_ptr tab_28 rfl rfl tab_3 (by decide) rfl ⟨rfl,rfl,rfl⟩) ?_
    refine d_op ?_
    refine xL [(56,PV.ptr 6 3)] [4] [(6,.obj [pI 1,pI (v1 + e3),pI (f1 + (tNext L (tStep L (tStep L ap 6) 4) 3)),pI (1 + (tNext L (tStep L (tStep L (tStep L ap 6) 4) 3) 18))])] rfl rfl rfl rfl rfl (s_load_ptr1 tab_3 rfl rfl rfl rfl rfl ⟨rfl,rfl,rfl⟩) ⟨rfl,trivial⟩ rfl ?_
    refine d_op ?_
    refine x_run0 [(55,pI (v1 + e3)),(57,pI (1 + (tNext L (tStep L (tStep L (tStep L ap 6) 4) 3) 18)))] [2,3,4,5] rfl rfl rfl rfl (s_addi (r := (v1 + e3) + (1 + (tNext L (tStep L (tStep L (tStep L ap 6) 4) 3) 18))) rfl rfl rfl (by omega) ⟨rfl,rfl,rfl⟩) ?_
    refine d_op ?_
    refine x_run0 [(10,PV.ptr 6 0)] [] rfl rfl rfl rfl (s_fa_ptr tab_28 rfl rfl tab_3 (by decide) rfl ⟨rfl,rfl,rfl⟩) ?_
    refine d_op ?_
    refine xL [(59,PV.ptr 6 2)] [7] [(6,.obj [pI 1,pI (v1 + e3),pI (f1 + (tNext L (tStep L (tStep L ap 6) 4) 3)),pI (1 + (tNext L (tStep L (tStep L (tStep L ap 6) 4) 3) 18))])] rfl rfl rfl rfl rfl (s_load_ptr1 tab_3 rfl rfl rfl rfl rfl ⟨rfl,rfl,rfl⟩) ⟨rfl,trivial⟩ rfl ?_
    refine d_op ?_
    refine x_run0 [(10,PV.ptr 6 0)] [] rfl rfl rfl rfl (s_fa_ptr tab_28 rfl rfl tab_3 (by decide) rfl ⟨rfl,rfl,rfl⟩) ?_
    refine d_op ?_
    refine xL [(61,PV.ptr 6 3)] [9] [(6,.obj [pI 1,pI (v1 + e3),pI (f1 + (tNext L (tStep L (tStep L ap 6) 4) 3)),pI (1 + (tNext L (tStep L (tStep L (tStep L ap 6) 4) 3) 18))])] rfl rfl rfl rfl rfl (s_load_ptr1 tab_3 rfl rfl rfl rfl rfl ⟨rfl,rfl,rfl⟩) ⟨rfl,trivial⟩ rfl ?_
    refine d_op ?_
    refine x_run0 [(60,pI (f1 + (tNext L (tStep L (tStep L ap 6) 4) 3))),(62,pI (1 + (tNext L (tStep L (tStep L (tStep L ap 6) 4) 3) 18)))] [7,8,9,10] rfl rfl rfl rfl (s_addi (r := (f1 + (tNext L (tStep L (tStep L ap 6) 4) 3)) + (1 + (tNext L (tStep L (tStep L (tStep L ap 6) 4) 3) 18))) rfl rfl rfl (by omega) ⟨rfl,rfl,rfl⟩) ?_
    refine d_op ?_
    refine xL [(7,PV.ptr 3 0),(52,pI 1)] [0,2,3,4,5,6] [(3,.obj [pI v0,pI v1,pI v2,pI v3])] rfl rfl rfl rfl rfl (s_ia_arrN (q := 1) tab_145 rfl tab_3 rfl (by omega) rfl (by omega) ⟨rfl,rfl,rfl⟩) ⟨rfl,trivial⟩ rfl ?_
    refine d_op ?_
    refine xT [(64,PV.ptr 3 1),(58,pI ((v1 + e3) + (1 + (tNext L (tStep L (tStep L (tStep L ap 6) 4) 3) 18))))] [0,2,3,4,5,6,12] [(3,.obj [pI v0,pI v1,pI v2,pI v3])] [(3,.obj [pI v0,pI ((v1 + e3) + (1 + (tNext L (tStep L (tStep L (tStep L ap 6) 4) 3) 18))),pI v2,pI v3])] [(6,.obj [pI 1,pI (v1 + e3),pI (f1 + (tNext L (tStep L (tStep L ap 6) 4) 3)),pI (1 + (tNext L (tStep L (tStep L (tStep L ap 6) 4) 3) 18))]),(0,.obj [pS 1 false encI L,pN (tStep L (tStep L (tStep L (tStep L ap 6) 4) 3) 18)]),(5,oB true 1 encI ([0,0,0,5] : List Int)),(4,oB true 1 encI ([3,0,3,1,2,3] : List Int)),(1,oB true 4 eWindow os),(2,.obj [pI f0,pI f1,pI f2,pI f3])] rfl rfl rfl rfl rfl (s_store_ptr tab_3 rfl rfl rfl rfl rfl (Nat.le_of_ble_eq_true rfl) ⟨rfl,rfl,rfl⟩) rfl rfl ?_
    refine d_op ?_
    refine xL [(6,PV.ptr 2 0),(53,pI 1)] [0,1,2,3,4,5,6,7,8,9,10,11,12,13] [(2,.obj [pI f0,pI f1,pI f2,pI f3])] rfl rfl rfl rfl rfl (s_ia_arrN (q := 1) tab_145 rfl tab_3 rfl (by omega) rfl (by omega) ⟨rfl,rfl,rfl⟩) ⟨rfl,trivial⟩ rfl ?_
    refine d_op ?_
    refine xT [(65,PV.ptr 2 1),(63,pI ((f1 + (tNext L (tStep L (tStep L ap 6) 4) 3)) + (1 + (tNext L (tStep L (tStep L (tStep L ap 6) 4) 3) 18))))] [0,1,2,3,4,5,6,7,8,9,10,11,12,13,14] [(2,.obj [pI f0,pI f1,pI f2,pI f3])] [(2,.obj [pI f0,pI ((f1 + (tNext L (tStep L (tStep L ap 6) 4) 3)) + (1 + (tNext L (tStep L (tStep L (tStep L ap 6) 4) 3) 18))),pI f2,pI f3])] [(3,.obj [pI v0,pI ((v1 + e3) + (1 + (tNext L (tStep L (tStep L (tStep L ap 6) 4) 3) 18))),pI v2,pI v3]),(6,.obj [pI 1,pI (v1 + e3),pI (f1 + (tNext L (tStep L (tStep L ap 6) 4) 3)),pI (1 + (tNext L (tStep L (tStep L (tStep L ap 6) 4) 3) 18))]),(0,.obj [pS 1 false encI L,pN (tStep L (tStep L (tStep L (tStep L ap 6) 4) 3) 18)]),(5,oB true 1 encI ([0,0,0,5] : List Int)),(4,oB true 1 encI ([3,0,3,1,2,3] : List Int)),(1,oB true 4 eWindow os)] rfl rfl rfl rfl rfl (s_store_ptr tab_3 rfl rfl rfl rfl rfl (Nat.le_of_ble_eq_true rfl) ⟨rfl,rfl,rfl⟩) rfl rfl ?_
    refine d_end ⟨by kernel_rfl, ?_⟩
    refine q_then ?_
    refine w_R ?_
    refine qm hnt rfl rfl ?_
    refine qo hnt rfl (s_load_ptr tab_28 rfl rfl rfl (Nat.le_of_ble_eq_true rfl) ?_)
    refine qo hnt rfl (s_mkM (f := eWindow) [(⟨1,v1 + e3,f1 + (tNext L (tStep L (tStep L ap 6) 4) 3),1 + (tNext L (tStep L (tStep L (tStep L ap 6) 4) 3) 18)⟩ : TWindow)] tab_22 rfl tab_28 ⟨rfl,by decide⟩ (by decide) rfl rfl rfl rfl ?_)
    refine qo hnt rfl (s_appR0 (f := eWindow) (l := os) (xs := [(⟨1,v1 + e3,f1 + (tNext L (tStep L (tStep L ap 6) 4) 3),1 + (tNext L (tStep L (tStep L (tStep L ap 6) 4) 3) 18)⟩ : TWindow)]) tab_22 rfl tab_28 ⟨rfl,by decide,by decide⟩ (srcM tab_22 rfl (hM_ref0 (f := eWindow) rfl rfl)) rfl rfl (by (simp; omega)) ?_)
    refine qa hnt rfl rfl ?_
    refine r_set [(0,PV.ptr 0 0),(5,PV.ref 8 0 none),(6,PV.ptr 2 0),(7,PV.ptr 3 0),(8,pI kk)] [(8,oB true 4 eWindow (os ++ [(⟨1,v1 + e3,f1 + (tNext L (tStep L (tStep L ap 6) 4) 3),1 + (tNext L (tStep L (tStep L (tStep L ap 6) 4) 3) 18)⟩ : TWindow)])),(7,oB true 4 eWindow [(⟨1,v1 + e3,f1 + (tNext L (tStep L (tStep L ap 6) 4) 3),1 + (tNext L (tStep L (tStep L (tStep L ap 6) 4) 3) 18)⟩ : TWindow)]),(2,.obj [pI f0,pI ((f1 + (tNext L (tStep L (tStep L ap 6) 4) 3)) + (1 + (tNext L (tStep L (tStep L (tStep L ap 6) 4) 3) 18))),pI f2,pI f3]),(3,.obj [pI v0,pI ((v1 + e3) + (1 + (tNext L (tStep L (tStep L (tStep L ap 6) 4) 3) 18))),pI v2,pI v3]),(6,.obj [pI 1,pI (v1 + e3),pI (f1 + (tNext L (tStep L (tStep L ap 6) 4) 3)),pI (1 + (tNext L (tStep L (tStep L (tStep L ap 6) 4) 3) 18))]),(0,.obj [pS 1 false encI L,pN (tStep L (tStep L (tStep L (tStep L ap 6) 4) 3) 18)]),(5,oB true 1 encI ([0,0,0,5] : List Int)),(4,oB true 1 encI ([3,0,3,1,2,3] : List Int))] 9 ⟨rfl,rfl,rfl,rfl,rfl,trivial⟩ rfl rfl ?_
    refine r_end ?_
    refine q_block ?_
    refine q_then ?_
    refine w_R ?_
    refine qm hnt rfl rfl ?_
    refine qo hnt rfl (s_subi (r := kk - 1) rfl rfl rfl (by omega) ?_)
    refine qa hnt rfl rfl ?_
    refine r_end ?_
    refine q_then ?_
    refine ⟨(tStep L (tStep L (tStep L (tStep L ap 6) 4) 3) 18),(os ++ [(⟨1,v1 + e3,f1 + (tNext L (tStep L (tStep L ap 6) 4) 3),1 + (tNext L (tStep L (tStep L (tStep L ap 6) 4) 3) 18)⟩ : TWindow)]),(f0),((f1 + (tNext L (tStep L (tStep L ap 6) 4) 3)) + (1 + (tNext L (tStep L (tStep L (tStep L ap 6) 4) 3) 18))),(f2),(f3),(v0),((v1 + e3) + (1 + (tNext L (tStep L (tStep L (tStep L ap 6) 4) 3) 18))),(v2),(v3),(kk - 1), ?_, ?_,⟨[(0,0),(1,8),(2,2),(3,3)],by rw [hk]; decide,⟨⟨_,rfl,rfl,rfl⟩,⟨_,rfl,rfl,rfl⟩,⟨_,rfl,rfl,rfl⟩,⟨_,rfl,rfl,rfl⟩,⟨_,rfl,rfl,rfl⟩,trivial⟩,⟨⟨_,_,rfl,rfl,rfl,rfl⟩,⟨_,_,rfl,rfl,rfl,rfl⟩,⟨_,_,rfl,rfl,rfl,rfl⟩,⟨_,_,rfl,rfl,rfl,rfl⟩,trivial⟩,by rw [hk]; decide⟩⟩
    ·
     refine ⟨by simp; omega,by omega, ?_⟩
     exact hW.step1 (by omega) (by omega) (by omega)
    · omega
   ·
    refine w_eq (s := 9) (y := pI 2) rfl (congrArg pI hs1) ?_
    refine W_drawn tabOk mixed hnt [[],[],[1],[1,2],[],[],[5],[4,5,6],[4,5,6,7],[1,2,3,4,5,6,7,8],[],[10],[10,11],[],[5,6,13],[5,6,10,11,12,13,14],[],[5,6,13,14,16],[5,6,13,14,16,17],[0,1,2,3,4,5,6,7,8,9,10,11,12,13,14,15,16,17,18],[],[0,1,2,3,4,5,6,7,8,9,10,11,12,13,14,15,16,17,18,19,20]] (by kernel_rfl) ?_
    refine d_op ?_
    refine x_run0 [(9,pI 2)] [] rfl rfl rfl rfl (s_move rfl ⟨rfl,rfl,rfl⟩) ?_
    refine d_op ?_
    refine x_run0 [(9,pI 2)] [] rfl rfl rfl rfl (s_move rfl ⟨rfl,rfl,rfl⟩) ?_
    refine d_op ?_
    refine xL [(7,PV.ptr 3 0),(33,pI 2)] [1] [(3,.obj [pI v0,pI v1,pI v2,pI v3])] rfl rfl rfl rfl rfl (s_ia_arrN (q := 2) tab_145 rfl tab_3 rfl (by omega) rfl (by omega) ⟨rfl,rfl,rfl⟩) ⟨rfl,trivial⟩ rfl ?_
    refine d_op ?_
    refine xL [(34,PV.ptr 3 2)] [1,2] [(3,.obj [pI v0,pI v1,pI v2,pI v3])] rfl rfl rfl rfl rfl (s_load_ptr1 tab_3 rfl rfl rfl rfl rfl ⟨rfl,rfl,rfl⟩) ⟨rfl,trivial⟩ rfl ?_
    refine d_op ?_
    refine xT [] [] [] [(5,oB true 1 encI ([0,0,0,5] : List Int))] [(0,.obj [pS 1 false encI L,pN (tStep L ap 6)]),(4,oB true 1 encI ([3,0,3,1,2,3] : List Int)),(1,oB true 4 eWindow os),(2,.obj [pI f0,pI f1,pI f2,pI f3]),(3,.obj [pI v0,pI v1,pI v2,pI v3])] rfl rfl rfl rfl rfl (s_mkM (f := encI) ([0,0,0,5] : List Int) tab_24 rfl tab_3 ⟨rfl,by decide⟩ (by decide) rfl rfl rfl rfl ⟨rfl,rfl,rfl⟩) rfl rfl ?_
    refine d_op ?_
    refine x_run0 [(0,PV.ptr 0 0)] [] rfl rfl rfl rfl (s_move rfl ⟨rfl,rfl,rfl⟩) ?_
    refine d_op ?_
    refine xT [(37,PV.ptr 0 0)] [5] [(0,.obj [pS 1 false encI L,pN (tStep L ap 6)])] [(0,.obj [pS 1 false encI L,pN (tStep L (tStep L ap 6) 4)])] [(5,oB true 1 encI ([0,0,0,5] : List Int)),(4,oB true 1 encI ([3,0,3,1,2,3] : List Int)),(1,oB true 4 eWindow os),(2,.obj [pI f0,pI f1,pI f2,pI f3]),(3,.obj [pI v0,pI v1,pI v2,pI v3])] rfl rfl rfl rfl rfl (s_callX (r2 := pI (tNext L (tStep L ap 6) 4)) (nx1 := 6) (H2 := [(0,.obj [pS 1 false encI L,pN (tStep L ap 6)])]) (H3 := [(0,.obj [pS 1 false encI L,pN (tStep L (tStep L ap 6) 4)])]) [0] [.obj [pS 1 false encI L,pN (tStep L ap 6)]] rfl rfl rfl (handed_of (by decide) ⟨rfl,trivial⟩) rfl rfl rfl rfl rfl rfl (w_burgagekeep_Tape_Next L false (tStep L ap 6) 4 (by omega) (by omega)) rfl (dist_of rfl) rfl rfl rfl rfl ⟨rfl,rfl,rfl⟩) rfl rfl ?_
    have hb38 := tNext_lt L (tStep L ap 6) (n := 4) (by decide)
    refine d_op ?_
    refine xL [(36,PV.ref 5 0 none),(38,pI (tNext L (tStep L ap 6) 4))] [4,5,6] [(5,oB true 1 encI ([0,0,0,5] : List Int))] rfl rfl rfl rfl rfl (s_iaR0 (q := Int.toNat (tNext L (tStep L ap 6) 4)) (f := encI) (l := ([0,0,0,5] : List Int)) tab_24 rfl tab_3 rfl rfl (by omega) rfl rfl (by simp; omega) ⟨rfl,rfl,rfl⟩) ⟨rfl,trivial⟩ rfl ?_
    refine d_op ?_
    obtain ⟨e4,he4⟩ := get_of_lt ([0,0,0,5] : List Int) (i := Int.toNat (tNext L (tStep L ap 6) 4)) (by simp; omega)
    refine xL [(39,PV.ep 5 (Int.toNat (tNext L (tStep L ap 6) 4)) 0)] [4,5,6,7] [(5,oB true 1 encI ([0,0,0,5] : List Int))] rfl rfl rfl rfl rfl (s_ldM (b := e4) (f := encI) tab_3 rfl rfl rfl rfl he4 rfl ⟨rfl,rfl,rfl⟩) ⟨rfl,trivial⟩ rfl ?_
    have hd4 := List.mem_of_getElem? he4
    simp only [List.mem_cons,List.not_mem_nil,or_false] at hd4
    refine d_op ?_
    refine x_run0 [(35,pI v2),(40,pI e4)] [1,2,3,4,5,6,7,8] rfl rfl rfl rfl (s_addi (r := v2 + e4) rfl rfl rfl (by omega) ⟨rfl,rfl,rfl⟩) ?_
    refine d_op ?_
    refine x_run0 [(9,pI 2)] [] rfl rfl rfl rfl (s_move rfl ⟨rfl,rfl,rfl⟩) ?_
    refine d_op ?_
    refine xL [(6,PV.ptr 2 0),(42,pI 2)] [10] [(2,.obj [pI f0,pI f1,pI f2,pI f3])] rfl rfl rfl rfl rfl (s_ia_arrN (q := 2) tab_145 rfl tab_3 rfl (by omega) rfl (by omega) ⟨rfl,rfl,rfl⟩) ⟨rfl,trivial⟩ rfl ?_
    refine d_op ?_
    refine xL [(43,PV.ptr 2 2)] [10,11] [(2,.obj [pI f0,pI f1,pI f2,pI f3])] rfl rfl rfl rfl rfl (s_load_ptr1 tab_3 rfl rfl rfl rfl rfl ⟨rfl,rfl,rfl⟩) ⟨rfl,trivial⟩ rfl ?_
    refine d_op ?_
    refine x_run0 [(0,PV.ptr 0 0)] [] rfl rfl rfl rfl (s_move rfl ⟨rfl,rfl,rfl⟩) ?_
    refine d_op ?_
    refine xT [(45,PV.ptr 0 0)] [5,6,13] [(0,.obj [pS 1 false encI L,pN (tStep L (tStep L ap 6) 4)])] [(0,.obj [pS 1 false encI L,pN (tStep L (tStep L (tStep L ap 6) 4) 3)])] [(5,oB true 1 encI ([0,0,0,5] : List Int)),(4,oB true 1 encI ([3,0,3,1,2,3] : List Int)),(1,oB true 4 eWindow os),(2,.obj [pI f0,pI f1,pI f2,pI f3]),(3,.obj [pI v0,pI v1,pI v2,pI v3])] rfl rfl rfl rfl rfl (s_callX (r2 := pI (tNext L (tStep L (tStep L ap 6) 4) 3)) (nx1 := 6) (H2 := [(0,.obj [pS 1 false encI L,pN (tStep L (tStep L ap 6) 4)])]) (H3 := [(0,.obj [pS 1 false encI L,pN (tStep L (tStep L (tStep L ap 6) 4) 3)])]) [0] [.obj [pS 1 false encI L,pN (tStep L (tStep L ap 6) 4)]] rfl rfl rfl (handed_of (by decide) ⟨rfl,trivial⟩) rfl rfl rfl rfl rfl rfl (w_burgagekeep_Tape_Next L false (tStep L (tStep L ap 6) 4) 3 (by omega) (by omega)) rfl (dist_of rfl) rfl rfl rfl rfl ⟨rfl,rfl,rfl⟩) rfl rfl ?_
    have hb46 := tNext_lt L (tStep L (tStep L ap 6) 4) (n := 3) (by decide)
    refine d_op ?_
    refine x_run0 [(44,pI f2),(46,pI (tNext L (tStep L (tStep L ap 6) 4) 3))] [5,6,10,11,12,13,14] rfl rfl rfl rfl (s_addi (r := f2 + (tNext L (tStep L (tStep L ap 6) 4) 3)) rfl rfl rfl (by omega) ⟨rfl,rfl,rfl⟩) ?_
    refine d_op ?_
    refine x_run0 [(0,PV.ptr 0 0)] [] rfl rfl rfl rfl (s_move rfl ⟨rfl,rfl,rfl⟩) ?_
    refine d_op ?_
    refine xT [(48,PV.ptr 0 0)] [5,6,13,14,16] [(0,.obj [pS 1 false encI L,pN (tStep L (tStep L (tStep L ap 6) 4) 3)])] [(0,.obj [pS 1 false encI L,pN (tStep L (tStep L (tStep L (tStep L ap 6) 4) 3) 18)])] [(5,oB true 1 encI ([0,0,0,5] : List Int)),(4,oB true 1 encI ([3,0,3,1,2,3] : List Int)),(1,oB true 4 eWindow os),(2,.obj [pI f0,pI f1,pI f2,pI f3]),(3,.obj [pI v0,pI v1,pI v2,pI v3])] rfl rfl rfl rfl rfl (s_callX (r2 := pI (tNext L (tStep L (tStep L (tStep L ap 6) 4) 3) 18)) (nx1 := 6) (H2 := [(0,.obj [pS 1 false encI L,pN (tStep L (tStep L (tStep L ap 6) 4) 3)])]) (H3 := [(0,.obj [pS 1 false encI L,pN (tStep L (tStep L (tStep L (tStep L ap 6) 4) 3) 18)])]) [0] [.obj [pS 1 false encI L,pN (tStep L (tStep L (tStep L ap 6) 4) 3)]] rfl rfl rfl (handed_of (by decide) ⟨rfl,trivial⟩) rfl rfl rfl rfl rfl rfl (w_burgagekeep_Tape_Next L false (tStep L (tStep L (tStep L ap 6) 4) 3) 18 (by omega) (by omega)) rfl (dist_of rfl) rfl rfl rfl rfl ⟨rfl,rfl,rfl⟩) rfl rfl ?_
    have hb49 := tNext_lt L (tStep L (tStep L (tStep L ap 6) 4) 3) (n := 18) (by decide)
    refine d_op ?_
    refine x_run0 [(49,pI (tNext L (tStep L (tStep L (tStep L ap 6) 4) 3) 18))] [5,6,13,14,16,17] rfl rfl rfl rfl (s_addi (r := 1 + (tNext L (tStep L (tStep L (tStep L ap 6) 4) 3) 18)) rfl rfl rfl (by omega) ⟨rfl,rfl,rfl⟩) ?_
    refine d_op ?_
    refine x_run0 [(32,pI 2),(41,pI (v2 + e4)),(47,pI (f2 + (tNext L (tStep L (tStep L ap 6) 4) 3))),(50,pI (1 + (tNext L (tStep L (tStep L (tStep L ap 6) 4) 3) 18)))] [0,1,2,3,4,5,6,7,8,9,10,11,12,13,14,15,16,17,18] rfl rfl rfl rfl (s_build tab_28 rfl rfl (b_cons rfl tab_3 rfl rfl rfl (Nat.le_of_ble_eq_true rfl) (b_cons rfl tab_3 rfl rfl rfl (Nat.le_of_ble_eq_true rfl) (b_cons rfl tab_3 rfl rfl rfl (Nat.le_of_ble_eq_true rfl) (b_cons rfl tab_3 rfl rfl rfl (Nat.le_of_ble_eq_true rfl) (b_nilN (cs' := [pI 2,pI (v2 + e4),pI (f2 + (tNext L (tStep L (tStep L ap 6) 4) 3)),pI (1 + (tNext L (tStep L (tStep L (tStep L ap 6) 4) 3) 18))]) rfl ⟨rfl,rfl,rfl⟩)))))) ?_
    refine d_op ?_
    refine xT [] [] [] [(6,.obj [pI 0,pI 0,pI 0,pI 0])] [(0,.obj [pS 1 false encI L,pN (tStep L (tStep L (tStep L (tStep L ap 6) 4) 3) 18)]),(5,oB true 1 encI ([0,0,0,5] : List Int)),(4,oB true 1 encI ([3,0,3,1,2,3] : List Int)),(1,oB true 4 eWindow os),(2,.obj [pI f0,pI f1,pI f2,pI f3]),(3,.obj [pI v0,pI v1,pI v2,pI v3])] rfl rfl rfl rfl rfl (s_alloc tab_28 ⟨rfl,rfl,rfl⟩) rfl rfl ?_
    refine d_op ?_
    refine xT [(10,PV.ptr 6 0),(51,PV.f (.agg [encI 2,encI (v2 + e4),encI (f2 + (tNext L (tStep L (tStep L ap 6) 4) 3)),encI (1 + (tNext L (tStep L (tStep L (tStep L ap 6) 4) 3) 18))]))] [0,1,2,3,4,5,6,7,8,9,10,11,12,13,14,15,16,17,18,19,20] [(6,.obj [pI 0,pI 0,pI 0,pI 0])] [(6,.obj [pI 2,pI (v2 + e4),pI (f2 + (tNext L (tStep L (tStep L ap 6) 4) 3)),pI (1 + (tNext L (tStep L (tStep L (tStep L ap 6) 4) 3) 18))])] [(0,.obj [pS 1 false encI L,pN (tStep L (tStep L (tStep L (tStep L ap 6) 4) 3) 18)]),(5,oB true 1 encI ([0,0,0,5] : List Int)),(4,oB true 1 encI ([3,0,3,1,2,3] : List Int)),(1,oB true 4 eWindow os),(2,.obj [pI f0,pI f1,pI f2,pI f3]),(3,.obj [pI v0,pI v1,pI v2,pI v3])] rfl rfl rfl rfl rfl (s_store_ptr tab_28 rfl rfl rfl rfl rfl (Nat.le_of_ble_eq_true rfl) ⟨rfl,rfl,rfl⟩) rfl rfl ?_
    refine d_end ⟨by kernel_rfl, ?_⟩
    refine q_then ?_
    refine w_seq ?_
    refine W_drawn tabOk mixed hnt [[],[],[],[2],[],[4],[2,3,4,5],[],[7],[],[9],[7,8,9,10],[0,2,3,4,5,6],[0,2,3,4,5,6,12],[0,1,2,3,4,5,6,7,8,9,10,11,12,13],[0,1,2,3,4,5,6,7,8,9,10,11,12,13,14]] (by kernel_rfl) ?_
    refine d_op ?_
    refine x_run0 [(9,pI 2)] [] rfl rfl rfl rfl (s_move rfl ⟨rfl,rfl,rfl⟩) ?_
    refine d_op ?_
    refine x_run0 [(9,pI 2)] [] rfl rfl rfl rfl (s_move rfl ⟨rfl,rfl,rfl⟩) ?_
    refine d_op ?_
    refine x_run0 [(10,PV.ptr 6 0)] [] rfl rfl rfl rfl (s_fa_ptr tab_28 rfl rfl tab_3 (by decide) rfl ⟨rfl,rfl,rfl⟩) ?_
    refine d_op ?_
    refine xL [(54,PV.ptr 6 1)] [2] [(6,.obj [pI 2,pI (v2 + e4),pI (f2 + (tNext L (tStep L (tStep L ap 6) 4) 3)),pI (1 + (tNext L (tStep L (tStep L (tStep L ap 6) 4) 3) 18))])] rfl rfl rfl rfl rfl (s_load_ptr1 tab_3 rfl rfl rfl rfl rfl ⟨rfl,rfl,rfl⟩) ⟨rfl,trivial⟩ rfl ?_
    refine d_op ?_
    refine x_run0 [(10,PV.ptr 6 0)] [] rfl rfl rfl rfl (s_fa_ptr tab_28 rfl rfl tab_3 (by decide) rfl ⟨rfl,rfl,rfl⟩) ?_
    refine d_op ?_
    refine xL [(56,PV.ptr 6 3)] [4] [(6,.obj [pI 2,pI (v2 + e4),pI (f2 + (tNext L (tStep L (tStep L ap 6) 4) 3)),pI (1 + (tNext L (tStep L (tStep L (tStep L ap 6) 4) 3) 18))])] rfl rfl rfl rfl rfl (s_load_ptr1 tab_3 rfl rfl rfl rfl rfl ⟨rfl,rfl,rfl⟩) ⟨rfl,trivial⟩ rfl ?_
    refine d_op ?_
    refine x_run0 [(55,pI (v2 + e4)),(57,pI (1 + (tNext L (tStep L (tStep L (tStep L ap 6) 4) 3) 18)))] [2,3,4,5] rfl rfl rfl rfl (s_addi (r := (v2 + e4) + (1 + (tNext L (tStep L (tStep L (tStep L ap 6) 4) 3) 18))) rfl rfl rfl (by omega) ⟨rfl,rfl,rfl⟩) ?_
    refine d_op ?_
    refine x_run0 [(10,PV.ptr 6 0)] [] rfl rfl rfl rfl (s_fa_ptr tab_28 rfl rfl tab_3 (by decide) rfl ⟨rfl,rfl,rfl⟩) ?_
    refine d_op ?_
    refine xL [(59,PV.ptr 6 2)] [7] [(6,.obj [pI 2,pI (v2 + e4),pI (f2 + (tNext L (tStep L (tStep L ap 6) 4) 3)),pI (1 + (tNext L (tStep L (tStep L (tStep L ap 6) 4) 3) 18))])] rfl rfl rfl rfl rfl (s_load_ptr1 tab_3 rfl rfl rfl rfl rfl ⟨rfl,rfl,rfl⟩) ⟨rfl,trivial⟩ rfl ?_
    refine d_op ?_
    refine x_run0 [(10,PV.ptr 6 0)] [] rfl rfl rfl rfl (s_fa_ptr tab_28 rfl rfl tab_3 (by decide) rfl ⟨rfl,rfl,rfl⟩) ?_
    refine d_op ?_
    refine xL [(61,PV.ptr 6 3)] [9] [(6,.obj [pI 2,pI (v2 + e4),pI (f2 + (tNext L (tStep L (tStep L ap 6) 4) 3)),pI (1 + (tNext L (tStep L (tStep L (tStep L ap 6) 4) 3) 18))])] rfl rfl rfl rfl rfl (s_load_ptr1 tab_3 rfl rfl rfl rfl rfl ⟨rfl,rfl,rfl⟩) ⟨rfl,trivial⟩ rfl ?_
    refine d_op ?_
    refine x_run0 [(60,pI (f2 + (tNext L (tStep L (tStep L ap 6) 4) 3))),(62,pI (1 + (tNext L (tStep L (tStep L (tStep L ap 6) 4) 3) 18)))] [7,8,9,10] rfl rfl rfl rfl (s_addi (r := (f2 + (tNext L (tStep L (tStep L ap 6) 4) 3)) + (1 + (tNext L (tStep L (tStep L (tStep L ap 6) 4) 3) 18))) rfl rfl rfl (by omega) ⟨rfl,rfl,rfl⟩) ?_
    refine d_op ?_
    refine xL [(7,PV.ptr 3 0),(52,pI 2)] [0,2,3,4,5,6] [(3,.obj [pI v0,pI v1,pI v2,pI v3])] rfl rfl rfl rfl rfl (s_ia_arrN (q := 2) tab_145 rfl tab_3 rfl (by omega) rfl (by omega) ⟨rfl,rfl,rfl⟩) ⟨rfl,trivial⟩ rfl ?_
    refine d_op ?_
    refine xT [(64,PV.ptr 3 2),(58,pI ((v2 + e4) + (1 + (tNext L (tStep L (tStep L (tStep L ap 6) 4) 3) 18))))] [0,2,3,4,5,6,12] [(3,.obj [pI v0,pI v1,pI v2,pI v3])] [(3,.obj [pI v0,pI v1,pI ((v2 + e4) + (1 + (tNext L (tStep L (tStep L (tStep L ap 6) 4) 3) 18))),pI v3])] [(6,.obj [pI 2,pI (v2 + e4),pI (f2 + (tNext L (tStep L (tStep L ap 6) 4) 3)),pI (1 + (tNext L (tStep L (tStep L (tStep L ap 6) 4) 3) 18))]),(0,.obj [pS 1 false encI L,pN (tStep L (tStep L (tStep L (tStep L ap 6) 4) 3) 18)]),(5,oB true 1 encI ([0,0,0,5] : List Int)),(4,oB true 1 encI ([3,0,3,1,2,3] : List Int)),(1,oB true 4 eWindow os),(2,.obj [pI f0,pI f1,pI f2,pI f3])] rfl rfl rfl rfl rfl (s_store_ptr tab_3 rfl rfl rfl rfl rfl (Nat.le_of_ble_eq_true rfl) ⟨rfl,rfl,rfl⟩) rfl rfl ?_
    refine d_op ?_
    refine xL [(6,PV.ptr 2 0),(53,pI 2)] [0,1,2,3,4,5,6,7,8,9,10,11,12,13] [(2,.obj [pI f0,pI f1,pI f2,pI f3])] rfl rfl rfl rfl rfl (s_ia_arrN (q := 2) tab_145 rfl tab_3 rfl (by omega) rfl (by omega) ⟨rfl,rfl,rfl⟩) ⟨rfl,trivial⟩ rfl ?_
    refine d_op ?_
    refine xT [(65,PV.ptr 2 2),(63,pI ((f2 + (tNext L (tStep L (tStep L ap 6) 4) 3)) + (1 + (tNext L (tStep L (tStep L (tStep L ap 6) 4) 3) 18))))] [0,1,2,3,4,5,6,7,8,9,10,11,12,13,14] [(2,.obj [pI f0,pI f1,pI f2,pI f3])] [(2,.obj [pI f0,pI f1,pI ((f2 + (tNext L (tStep L (tStep L ap 6) 4) 3)) + (1 + (tNext L (tStep L (tStep L (tStep L ap 6) 4) 3) 18))),pI f3])] [(3,.obj [pI v0,pI v1,pI ((v2 + e4) + (1 + (tNext L (tStep L (tStep L (tStep L ap 6) 4) 3) 18))),pI v3]),(6,.obj [pI 2,pI (v2 + e4),pI (f2 + (tNext L (tStep L (tStep L ap 6) 4) 3)),pI (1 + (tNext L (tStep L (tStep L (tStep L ap 6) 4) 3) 18))]),(0,.obj [pS 1 false encI L,pN (tStep L (tStep L (tStep L (tStep L ap 6) 4) 3) 18)]),(5,oB true 1 encI ([0,0,0,5] : List Int)),(4,oB true 1 encI ([3,0,3,1,2,3] : List Int)),(1,oB true 4 eWindow os)] rfl rfl rfl rfl rfl (s_store_ptr tab_3 rfl rfl rfl rfl rfl (Nat.le_of_ble_eq_true rfl) ⟨rfl,rfl,rfl⟩) rfl rfl ?_
    refine d_end ⟨by kernel_rfl, ?_⟩
    refine q_then ?_
    refine w_R ?_
    refine qm hnt rfl rfl ?_
    refine qo hnt rfl (s_load_ptr tab_28 rfl rfl rfl (Nat.le_of_ble_eq_true rfl) ?_)
    refine qo hnt rfl (s_mkM (f := eWindow) [(⟨2,v2 + e4,f2 + (tNext L (tStep L (tStep L ap 6) 4) 3),1 + (tNext L (tStep L (tStep L (tStep L ap 6) 4) 3) 18)⟩ : TWindow)] tab_22 rfl tab_28 ⟨rfl,by decide⟩ (by decide) rfl rfl rfl rfl ?_)
    refine qo hnt rfl (s_appR0 (f := eWindow) (l := os) (xs := [(⟨2,v2 + e4,f2 + (tNext L (tStep L (tStep L ap 6) 4) 3),1 + (tNext L (tStep L (tStep L (tStep L ap 6) 4) 3) 18)⟩ : TWindow)]) tab_22 rfl tab_28 ⟨rfl,by decide,by decide⟩ (srcM tab_22 rfl (hM_ref0 (f := eWindow) rfl rfl)) rfl rfl (by (simp; omega)) ?_)
    refine qa hnt rfl rfl ?_
    refine r_set [(0,PV.ptr 0 0),(5,PV.ref 8 0 none),(6,PV.ptr 2 0),(7,PV.ptr 3 0),(8,pI kk)] [(8,oB true 4 eWindow (os ++ [(⟨2,v2 + e4,f2 + (tNext L (tStep L (tStep L ap 6) 4) 3),1 + (tNext L (tStep L (tStep L (tStep L ap 6) 4) 3) 18)⟩ : TWindow)])),(7,oB true 4 eWindow [(⟨2,v2 + e4,f2 + (tNext L (tStep L (tStep L ap 6) 4) 3),1 + (tNext L (tStep L (tStep L (tStep L ap 6) 4) 3) 18)⟩ : TWindow)]),(2,.obj [pI f0,pI f1,pI ((f2 + (tNext L (tStep L (tStep L ap 6) 4) 3)) + (1 + (tNext L (tStep L (tStep L (tStep L ap 6) 4) 3) 18))),pI f3]),(3,.obj [pI v0,pI v1,pI ((v2 + e4) + (1 + (tNext L (tStep L (tStep L (tStep L ap 6) 4) 3) 18))),pI v3]),(6,.obj [pI 2,pI (v2 + e4),pI (f2 + (tNext L (tStep L (tStep L ap 6) 4) 3)),pI (1 + (tNext L (tStep L (tStep L (tStep L ap 6) 4) 3) 18))]),(0,.obj [pS 1 false encI L,pN (tStep L (tStep L (tStep L (tStep L ap 6) 4) 3) 18)]),(5,oB true 1 encI ([0,0,0,5] : List Int)),(4,oB true 1 encI ([3,0,3,1,2,3] : List Int))] 9 ⟨rfl,rfl,rfl,rfl,rfl,trivial⟩ rfl rfl ?_
    refine r_end ?_
    refine q_block ?_
    refine q_then ?_
    refine w_R ?_
    refine qm hnt rfl rfl ?_
    refine qo hnt rfl (s_subi (r := kk - 1) rfl rfl rfl (by omega) ?_)
    refine qa hnt rfl rfl ?_
    refine r_end ?_
    refine q_then ?_
    refine ⟨(tStep L (tStep L (tStep L (tStep L ap 6) 4) 3) 18),(os ++ [(⟨2,v2 + e4,f2 + (tNext L (tStep L (tStep L ap 6) 4) 3),1 + (tNext L (tStep L (tStep L (tStep L ap 6) 4) 3) 18)⟩ : TWindow)]),(f0),(f1),((f2 + (tNext L (tStep L (tStep L ap 6) 4) 3)) + (1 + (tNext L (tStep L (tStep L (tStep L ap 6) 4) 3) 18))),(f3),(v0),(v1),((v2 + e4) + (1 + (tNext L (tStep L (tStep L (tStep L ap 6) 4) 3) 18))),(v3),(kk - 1), ?_, ?_,⟨[(0,0),(1,8),(2,2),(3,3)],by rw [hk]; decide,⟨⟨_,rfl,rfl,rfl⟩,⟨_,rfl,rfl,rfl⟩,⟨_,rfl,rfl,rfl⟩,⟨_,rfl,rfl,rfl⟩,⟨_,rfl,rfl,rfl⟩,trivial⟩,⟨⟨_,_,rfl,rfl,rfl,rfl⟩,⟨_,_,rfl,rfl,rfl,rfl⟩,⟨_,_,rfl,rfl,rfl,rfl⟩,⟨_,_,rfl,rfl,rfl,rfl⟩,trivial⟩,by rw [hk]; decide⟩⟩
    ·
     refine ⟨by simp; omega,by omega, ?_⟩
     exact hW.step2 (by omega) (by omega) (by omega)
    · omega
   ·
    refine w_eq (s := 9) (y := pI 3) rfl (congrArg pI hs1) ?_
    refine W_drawn tabOk mixed hnt [[],[],[1],[1,2],[],[],[5],[4,5,6],[4,5,6,7],[1,2,3,4,5,6,7,8],[],[10],[10,11],[],[5,6,13],[5,6,10,11,12,13,14],[],[5,6,13,14,16],[5,6,13,14,16,17],[0,1,2,3,4,5,6,7,8,9,10,11,12,13,14,15,16,17,18],[],[0,1,2,3,4,5,6,7,8,9,10,11,12,13,14,15,16,17,18,19,20]] (by kernel_rfl) ?_
    refine d_op ?_
    refine x_run0 [(9,pI 3)] [] rfl rfl rfl rfl (s_move rfl ⟨rfl,rfl,rfl⟩) ?_
    refine d_op ?_
    refine x_run0 [(9,pI 3)] [] rfl rfl rfl rfl (s_move rfl ⟨rfl,rfl,rfl⟩) ?_
    refine d_op ?_
    refine xL [(7,PV.ptr 3 0),(33,pI 3)] [1] [(3,.obj [pI v0,pI v1,pI v2,pI v3])] rfl rfl rfl rfl rfl (s_ia_arrN (q := 3) tab_145 rfl tab_3 rfl (by omega) rfl (by omega) ⟨rfl,rfl,rfl⟩) ⟨rfl,trivial⟩ rfl ?_
    refine d_op ?_
    refine xL [(34,PV.ptr 3 3)] [1,2] [(3,.obj [pI v0,pI v1,pI v2,pI v3])] rfl rfl rfl rfl rfl (s_load_ptr1 tab_3 rfl rfl rfl rfl rfl ⟨rfl,rfl,rfl⟩) ⟨rfl,trivial⟩ rfl ?_
    refine d_op ?_
    refine xT [] [] [] [(5,oB true 1 encI ([0,0,0,5] : List Int))] [(0,.obj [pS 1 false encI L,pN (tStep L ap 6)]),(4,oB true 1 encI ([3,0,3,1,2,3] : List Int)),(1,oB true 4 eWindow os),(2,.obj [pI f0,pI f1,pI f2,pI f3]),(3,.obj [pI v0,pI v1,pI v2,pI v3])] rfl rfl rfl rfl rfl (s_mkM (f := encI) ([0,0,0,5] : List Int) tab_24 rfl tab_3 ⟨rfl,by decide⟩ (by decide) rfl rfl rfl rfl ⟨rfl,rfl,rfl⟩) rfl rfl ?_
    refine d_op ?_
    refine x_run0 [(0,PV.ptr 0 0)] [] rfl rfl rfl rfl (s_move rfl ⟨rfl,rfl,rfl⟩) ?_
    refine d_op ?_
    refine xT [(37,PV.ptr 0 0)] [5] [(0,.obj [pS 1 false encI L,pN (tStep L ap 6)])] [(0,.obj [pS 1 false encI L,pN (tStep L (tStep L ap 6) 4)])] [(5,oB true 1 encI ([0,0,0,5] : List Int)),(4,oB true 1 encI ([3,0,3,1,2,3] : List Int)),(1,oB true 4 eWindow os),(2,.obj [pI f0,pI f1,pI f2,pI f3]),(3,.obj [pI v0,pI v1,pI v2,pI v3])] rfl rfl rfl rfl rfl (s_callX (r2 := pI (tNext L (tStep L ap 6) 4)) (nx1 := 6) (H2 := [(0,.obj [pS 1 false encI L,pN (tStep L ap 6)])]) (H3 := [(0,.obj [pS 1 false encI L,pN (tStep L (tStep L ap 6) 4)])]) [0] [.obj [pS 1 false encI L,pN (tStep L ap 6)]] rfl rfl rfl (handed_of (by decide) ⟨rfl,trivial⟩) rfl rfl rfl rfl rfl rfl (w_burgagekeep_Tape_Next L false (tStep L ap 6) 4 (by omega) (by omega)) rfl (dist_of rfl) rfl rfl rfl rfl ⟨rfl,rfl,rfl⟩) rfl rfl ?_
    have hb38 := tNext_lt L (tStep L ap 6) (n := 4) (by decide)
    refine d_op ?_
    refine xL [(36,PV.ref 5 0 none),(38,pI (tNext L (tStep L ap 6) 4))] [4,5,6] [(5,oB true 1 encI ([0,0,0,5] : List Int))] rfl rfl rfl rfl rfl (s_iaR0 (q := Int.toNat (tNext L (tStep L ap 6) 4)) (f := encI) (l := ([0,0,0,5] : List Int)) tab_24 rfl tab_3 rfl rfl (by omega) rfl rfl (by simp; omega) ⟨rfl,rfl,rfl⟩) ⟨rfl,trivial⟩ rfl ?_
    refine d_op ?_
    obtain ⟨e5,he5⟩ := get_of_lt ([0,0,0,5] : List Int) (i := Int.toNat (tNext L (tStep L ap 6) 4)) (by simp; omega)
    refine xL [(39,PV.ep 5 (Int.toNat (tNext L (tStep L ap 6) 4)) 0)] [4,5,6,7] [(5,oB true 1 encI ([0,0,0,5] : List Int))] rfl rfl rfl rfl rfl (s_ldM (b := e5) (f := encI) tab_3 rfl rfl rfl rfl he5 rfl ⟨rfl,rfl,rfl⟩) ⟨rfl,trivial⟩ rfl ?_
    have hd4 := List.mem_of_getElem? he5
    simp only [List.mem_cons,List.not_mem_nil,or_false] at hd4
    refine d_op ?_
    refine x_run0 [(35,pI v3),(40,pI e5)] [1,2,3,4,5,6,7,8] rfl rfl rfl rfl (s_addi (r := v3 + e5) rfl rfl rfl (by omega) ⟨rfl,rfl,rfl⟩) ?_
    refine d_op ?_
    refine x_run0 [(9,pI 3)] [] rfl rfl rfl rfl (s_move rfl ⟨rfl,rfl,rfl⟩) ?_
    refine d_op ?_
    refine xL [(6,PV.ptr 2 0),(42,pI 3)] [10] [(2,.obj [pI f0,pI f1,pI f2,pI f3])] rfl rfl rfl rfl rfl (s_ia_arrN (q := 3) tab_145 rfl tab_3 rfl (by omega) rfl (by omega) ⟨rfl,rfl,rfl⟩) ⟨rfl,trivial⟩ rfl ?_
    refine d_op ?_
    refine xL [(43,PV.ptr 2 3)] [10,11] [(2,.obj [pI f0,pI f1,pI f2,pI f3])] rfl rfl rfl rfl rfl (s_load_ptr1 tab_3 rfl rfl rfl rfl rfl ⟨rfl,rfl,rfl⟩) ⟨rfl,trivial⟩ rfl ?_
    refine d_op ?_
    refine x_run0 [(0,PV.ptr 0 0)] [] rfl rfl rfl rfl (s_move rfl ⟨rfl,rfl,rfl⟩) ?_
    refine d_op ?_
    refine xT [(45,PV.ptr 0 0)] [5,6,13] [(0,.obj [pS 1 false encI L,pN (tStep L (tStep L ap 6) 4)])] [(0,.obj [pS 1 false encI L,pN (tStep L (tStep L (tStep L ap 6) 4) 3)])] [(5,oB true 1 encI ([0,0,0,5] : List Int)),(4,oB true 1 encI ([3,0,3,1,2,3] : List Int)),(1,oB true 4 eWindow os),(2,.obj [pI f0,pI f1,pI f2,pI f3]),(3,.obj [pI v0,pI v1,pI v2,pI v3])] rfl rfl rfl rfl rfl (s_callX (r2 := pI (tNext L (tStep L (tStep L ap 6) 4) 3)) (nx1 := 6) (H2 := [(0,.obj [pS 1 false encI L,pN (tStep L (tStep L ap 6) 4)])]) (H3 := [(0,.obj [pS 1 false encI L,pN (tStep L (tStep L (tStep L ap 6) 4) 3)])]) [0] [.obj [pS 1 false encI L,pN (tStep L (tStep L ap 6) 4)]] rfl rfl rfl (handed_of (by decide) ⟨rfl,trivial⟩) rfl rfl rfl rfl rfl rfl (w_burgagekeep_Tape_Next L false (tStep L (tStep L ap 6) 4) 3 (by omega) (by omega)) rfl (dist_of rfl) rfl rfl rfl rfl ⟨rfl,rfl,rfl⟩) rfl rfl ?_
    have hb46 := tNext_lt L (tStep L (tStep L ap 6) 4) (n := 3) (by decide)
    refine d_op ?_
    refine x_run0 [(44,pI f3),(46,pI (tNext L (tStep L (tStep L ap 6) 4) 3))] [5,6,10,11,12,13,14] rfl rfl rfl rfl (s_addi (r := f3 + (tNext L (tStep L (tStep L ap 6) 4) 3)) rfl rfl rfl (by omega) ⟨rfl,rfl,rfl⟩) ?_
    refine d_op ?_
    refine x_run0 [(0,PV.ptr 0 0)] [] rfl rfl rfl rfl (s_move rfl ⟨rfl,rfl,rfl⟩) ?_
    refine d_op ?_
    refine xT [(48,PV.ptr 0 0)] [5,6,13,14,16] [(0,.obj [pS 1 false encI L,pN (tStep L (tStep L (tStep L ap 6) 4) 3)])] [(0,.obj [pS 1 false encI L,pN (tStep L (tStep L (tStep L (tStep L ap 6) 4) 3) 18)])] [(5,oB true 1 encI ([0,0,0,5] : List Int)),(4,oB true 1 encI ([3,0,3,1,2,3] : List Int)),(1,oB true 4 eWindow os),(2,.obj [pI f0,pI f1,pI f2,pI f3]),(3,.obj [pI v0,pI v1,pI v2,pI v3])] rfl rfl rfl rfl rfl (s_callX (r2 := pI (tNext L (tStep L (tStep L (tStep L ap 6) 4) 3) 18)) (nx1 := 6) (H2 := [(0,.obj [pS 1 false encI L,pN (tStep L (tStep L (tStep L ap 6) 4) 3)])]) (H3 := [(0,.obj [pS 1 false encI L,pN (tStep L (tStep L (tStep L (tStep L ap 6) 4) 3) 18)])]) [0] [.obj [pS 1 false encI L,pN (tStep L (tStep L (tStep L ap 6) 4) 3)]] rfl rfl rfl (handed_of (by decide) ⟨rfl,trivial⟩) rfl rfl rfl rfl rfl rfl (w_burgagekeep_Tape_Next L false (tStep L (tStep L (tStep L ap 6) 4) 3) 18 (by omega) (by omega)) rfl (dist_of rfl) rfl rfl rfl rfl ⟨rfl,rfl,rfl⟩) rfl rfl ?_
    have hb49 := tNext_lt L (tStep L (tStep L (tStep L ap 6) 4) 3) (n := 18) (by decide)
    refine d_op ?_
    refine x_run0 [(49,pI (tNext L (tStep L (tStep L (tStep L ap 6) 4) 3) 18))] [5,6,13,14,16,17] rfl rfl rfl rfl (s_addi (r := 1 + (tNext L (tStep L (tStep L (tStep L ap 6) 4) 3) 18)) rfl rfl rfl (by omega) ⟨rfl,rfl,rfl⟩) ?_
    refine d_op ?_
    refine x_run0 [(32,pI 3),(41,pI (v3 + e5)),(47,pI (f3 + (tNext L (tStep L (tStep L ap 6) 4) 3))),(50,pI (1 + (tNext L (tStep L (tStep L (tStep L ap 6) 4) 3) 18)))] [0,1,2,3,4,5,6,7,8,9,10,11,12,13,14,15,16,17,18] rfl rfl rfl rfl (s_build tab_28 rfl rfl (b_cons rfl tab_3 rfl rfl rfl (Nat.le_of_ble_eq_true rfl) (b_cons rfl tab_3 rfl rfl rfl (Nat.le_of_ble_eq_true rfl) (b_cons rfl tab_3 rfl rfl rfl (Nat.le_of_ble_eq_true rfl) (b_cons rfl tab_3 rfl rfl rfl (Nat.le_of_ble_eq_true rfl) (b_nilN (cs' := [pI 3,pI (v3 + e5),pI (f3 + (tNext L (tStep L (tStep L ap 6) 4) 3)),pI (1 + (tNext L (tStep L (tStep L (tStep L ap 6) 4) 3) 18))]) rfl ⟨rfl,rfl,rfl⟩)))))) ?_
    refine d_op ?_
    refine xT [] [] [] [(6,.obj [pI 0,pI 0,pI 0,pI 0])] [(0,.obj [pS 1 false encI L,pN (tStep L (tStep L (tStep L (tStep L ap 6) 4) 3) 18)]),(5,oB true 1 encI ([0,0,0,5] : List Int)),(4,oB true 1 encI ([3,0,3,1,2,3] : List Int)),(1,oB true 4 eWindow os),(2,.obj [pI f0,pI f1,pI f2,pI f3]),(3,.obj [pI v0,pI v1,pI v2,pI v3])] rfl rfl rfl rfl rfl (s_alloc tab_28 ⟨rfl,rfl,rfl⟩) rfl rfl ?_
    refine d_op ?_
    refine xT [(10,PV.ptr 6 0),(51,PV.f (.agg [encI 3,encI (v3 + e5),encI (f3 + (tNext L (tStep L (tStep L ap 6) 4) 3)),encI (1 + (tNext L (tStep L (tStep L (tStep L ap 6) 4) 3) 18))]))] [0,1,2,3,4,5,6,7,8,9,10,11,12,13,14,15,16,17,18,19,20] [(6,.obj [pI 0,pI 0,pI 0,pI 0])] [(6,.obj [pI 3,pI (v3 + e5),pI (f3 + (tNext L (tStep L (tStep L ap 6) 4) 3)),pI (1 + (tNext L (tStep L (tStep L (tStep L ap 6) 4) 3) 18))])] [(0,.obj [pS 1 false encI L,pN (tStep L (tStep L (tStep L (tStep L ap 6) 4) 3) 18)]),(5,oB true 1 encI ([0,0,0,5] : List Int)),(4,oB true 1 encI ([3,0,3,1,2,3] : List Int)),(1,oB true 4 eWindow os),(2,.obj [pI f0,pI f1,pI f2,pI f3]),(3,.obj [pI v0,pI v1,pI v2,pI v3])] rfl rfl rfl rfl rfl (s_store_ptr tab_28 rfl rfl rfl rfl rfl (Nat.le_of_ble_eq_true rfl) ⟨rfl,rfl,rfl⟩) rfl rfl ?_
    refine d_end ⟨by kernel_rfl, ?_⟩
    refine q_then ?_
    refine w_seq ?_
    refine W_drawn tabOk mixed hnt [[],[],[],[2],[],[4],[2,3,4,5],[],[7],[],[9],[7,8,9,10],[0,2,3,4,5,6],[0,2,3,4,5,6,12],[0,1,2,3,4,5,6,7,8,9,10,11,12,13],[0,1,2,3,4,5,6,7,8,9,10,11,12,13,14]] (by kernel_rfl) ?_
    refine d_op ?_
    refine x_run0 [(9,pI 3)] [] rfl rfl rfl rfl (s_move rfl ⟨rfl,rfl,rfl⟩) ?_
    refine d_op ?_
    refine x_run0 [(9,pI 3)] [] rfl rfl rfl rfl (s_move rfl ⟨rfl,rfl,rfl⟩) ?_
    refine d_op ?_
    refine x_run0 [(10,PV.ptr 6 0)] [] rfl rfl rfl rfl (s_fa_ptr tab_28 rfl rfl tab_3 (by decide) rfl ⟨rfl,rfl,rfl⟩) ?_
    refine d_op ?_
    refine xL [(54,PV.ptr 6 1)] [2] [(6,.obj [pI 3,pI (v3 + e5),pI (f3 + (tNext L (tStep L (tStep L ap 6) 4) 3)),pI (1 + (tNext L (tStep L (tStep L (tStep L ap 6) 4) 3) 18))])] rfl rfl rfl rfl rfl (s_load_ptr1 tab_3 rfl rfl rfl rfl rfl ⟨rfl,rfl,rfl⟩) ⟨rfl,trivial⟩ rfl ?_
    refine d_op ?_
    refine x_run0 [(10,PV.ptr 6 0)] [] rfl rfl rfl rfl (s_fa_ptr tab_28 rfl rfl tab_3 (by decide) rfl ⟨rfl,rfl,rfl⟩) ?_
    refine d_op ?_
    refine xL [(56,PV.ptr 6 3)] [4] [(6,.obj [pI 3,pI (v3 + e5),pI (f3 + (tNext L (tStep L (tStep L ap 6) 4) 3)),pI (1 + (tNext L (tStep L (tStep L (tStep L ap 6) 4) 3) 18))])] rfl rfl rfl rfl rfl (s_load_ptr1 tab_3 rfl rfl rfl rfl rfl ⟨rfl,rfl,rfl⟩) ⟨rfl,trivial⟩ rfl ?_
    refine d_op ?_
    refine x_run0 [(55,pI (v3 + e5)),(57,pI (1 + (tNext L (tStep L (tStep L (tStep L ap 6) 4) 3) 18)))] [2,3,4,5] rfl rfl rfl rfl (s_addi (r := (v3 + e5) + (1 + (tNext L (tStep L (tStep L (tStep L ap 6) 4) 3) 18))) rfl rfl rfl (by omega) ⟨rfl,rfl,rfl⟩) ?_
    refine d_op ?_
    refine x_run0 [(10,PV.ptr 6 0)] [] rfl rfl rfl rfl (s_fa_ptr tab_28 rfl rfl tab_3 (by decide) rfl ⟨rfl,rfl,rfl⟩) ?_
    refine d_op ?_
    refine xL [(59,PV.ptr 6 2)] [7] [(6,.obj [pI 3,pI (v3 + e5),pI (f3 + (tNext L (tStep L (tStep L ap 6) 4) 3)),pI (1 + (tNext L (tStep L (tStep L (tStep L ap 6) 4) 3) 18))])] rfl rfl rfl rfl rfl (s_load_ptr1 tab_3 rfl rfl rfl rfl rfl ⟨rfl,rfl,rfl⟩) ⟨rfl,trivial⟩ rfl ?_
    refine d_op ?_
    refine x_run0 [(10,PV.ptr 6 0)] [] rfl rfl rfl rfl (s_fa_ptr tab_28 rfl rfl tab_3 (by decide) rfl ⟨rfl,rfl,rfl⟩) ?_
    refine d_op ?_
    refine xL [(61,PV.ptr 6 3)] [9] [(6,.obj [pI 3,pI (v3 + e5),pI (f3 + (tNext L (tStep L (tStep L ap 6) 4) 3)),pI (1 + (tNext L (tStep L (tStep L (tStep L ap 6) 4) 3) 18))])] rfl rfl rfl rfl rfl (s_load_ptr1 tab_3 rfl rfl rfl rfl rfl ⟨rfl,rfl,rfl⟩) ⟨rfl,trivial⟩ rfl ?_
    refine d_op ?_
    refine x_run0 [(60,pI (f3 + (tNext L (tStep L (tStep L ap 6) 4) 3))),(62,pI (1 + (tNext L (tStep L (tStep L (tStep L ap 6) 4) 3) 18)))] [7,8,9,10] rfl rfl rfl rfl (s_addi (r := (f3 + (tNext L (tStep L (tStep L ap 6) 4) 3)) + (1 + (tNext L (tStep L (tStep L (tStep L ap 6) 4) 3) 18))) rfl rfl rfl (by omega) ⟨rfl,rfl,rfl⟩) ?_
    refine d_op ?_
    refine xL [(7,PV.ptr 3 0),(52,pI 3)] [0,2,3,4,5,6] [(3,.obj [pI v0,pI v1,pI v2,pI v3])] rfl rfl rfl rfl rfl (s_ia_arrN (q := 3) tab_145 rfl tab_3 rfl (by omega) rfl (by omega) ⟨rfl,rfl,rfl⟩) ⟨rfl,trivial⟩ rfl ?_
    refine d_op ?_
    refine xT [(64,PV.ptr 3 3),(58,pI ((v3 + e5) + (1 + (tNext L (tStep L (tStep L (tStep L ap 6) 4) 3) 18))))] [0,2,3,4,5,6,12] [(3,.obj [pI v0,pI v1,pI v2,pI v3])] [(3,.obj [pI v0,pI v1,pI v2,pI ((v3 + e5) + (1 + (tNext L (tStep L (tStep L (tStep L ap 6) 4) 3) 18)))])] [(6,.obj [pI 3,pI (v3 + e5),pI (f3 + (tNext L (tStep L (tStep L ap 6) 4) 3)),pI (1 + (tNext L (tStep L (tStep L (tStep L ap 6) 4) 3) 18))]),(0,.obj [pS 1 false encI L,pN (tStep L (tStep L (tStep L (tStep L ap 6) 4) 3) 18)]),(5,oB true 1 encI ([0,0,0,5] : List Int)),(4,oB true 1 encI ([3,0,3,1,2,3] : List Int)),(1,oB true 4 eWindow os),(2,.obj [pI f0,pI f1,pI f2,pI f3])] rfl rfl rfl rfl rfl (s_store_ptr tab_3 rfl rfl rfl rfl rfl (Nat.le_of_ble_eq_true rfl) ⟨rfl,rfl,rfl⟩) rfl rfl ?_
    refine d_op ?_
    refine xL [(6,PV.ptr 2 0),(53,pI 3)] [0,1,2,3,4,5,6,7,8,9,10,11,12,13] [(2,.obj [pI f0,pI f1,pI f2,pI f3])] rfl rfl rfl rfl rfl (s_ia_arrN (q := 3) tab_145 rfl tab_3 rfl (by omega) rfl (by omega) ⟨rfl,rfl,rfl⟩) ⟨rfl,trivial⟩ rfl ?_
    refine d_op ?_
    refine xT [(65,PV.ptr 2 3),(63,pI ((f3 + (tNext L (tStep L (tStep L ap 6) 4) 3)) + (1 + (tNext L (tStep L (tStep L (tStep L ap 6) 4) 3) 18))))] [0,1,2,3,4,5,6,7,8,9,10,11,12,13,14] [(2,.obj [pI f0,pI f1,pI f2,pI f3])] [(2,.obj [pI f0,pI f1,pI f2,pI ((f3 + (tNext L (tStep L (tStep L ap 6) 4) 3)) + (1 + (tNext L (tStep L (tStep L (tStep L ap 6) 4) 3) 18)))])] [(3,.obj [pI v0,pI v1,pI v2,pI ((v3 + e5) + (1 + (tNext L (tStep L (tStep L (tStep L ap 6) 4) 3) 18)))]),(6,.obj [pI 3,pI (v3 + e5),pI (f3 + (tNext L (tStep L (tStep L ap 6) 4) 3)),pI (1 + (tNext L (tStep L (tStep L (tStep L ap 6) 4) 3) 18))]),(0,.obj [pS 1 false encI L,pN (tStep L (tStep L (tStep L (tStep L ap 6) 4) 3) 18)]),(5,oB true 1 encI ([0,0,0,5] : List Int)),(4,oB true 1 encI ([3,0,3,1,2,3] : List Int)),(1,oB true 4 eWindow os)] rfl rfl rfl rfl rfl (s_store_ptr tab_3 rfl rfl rfl rfl rfl (Nat.le_of_ble_eq_true rfl) ⟨rfl,rfl,rfl⟩) rfl rfl ?_
    refine d_end ⟨by kernel_rfl, ?_⟩
    refine q_then ?_
    refine w_R ?_
    refine qm hnt rfl rfl ?_
    refine qo hnt rfl (s_load_ptr tab_28 rfl rfl rfl (Nat.le_of_ble_eq_true rfl) ?_)
    refine qo hnt rfl (s_mkM (f := eWindow) [(⟨3,v3 + e5,f3 + (tNext L (tStep L (tStep L ap 6) 4) 3),1 + (tNext L (tStep L (tStep L (tStep L ap 6) 4) 3) 18)⟩ : TWindow)] tab_22 rfl tab_28 ⟨rfl,by decide⟩ (by decide) rfl rfl rfl rfl ?_)
    refine qo hnt rfl (s_appR0 (f := eWindow) (l := os) (xs := [(⟨3,v3 + e5,f3 + (tNext L (tStep L (tStep L ap 6) 4) 3),1 + (tNext L (tStep L (tStep L (tStep L ap 6) 4) 3) 18)⟩ : TWindow)]) tab_22 rfl tab_28 ⟨rfl,by decide,by decide⟩ (srcM tab_22 rfl (hM_ref0 (f := eWindow) rfl rfl)) rfl rfl (by (simp; omega)) ?_)
    refine qa hnt rfl rfl ?_
    refine r_set [(0,PV.ptr 0 0),(5,PV.ref 8 0 none),(6,PV.ptr 2 0),(7,PV.ptr 3 0),(8,pI kk)] [(8,oB true 4 eWindow (os ++ [(⟨3,v3 + e5,f3 + (tNext L (tStep L (tStep L ap 6) 4) 3),1 + (tNext L (tStep L (tStep L (tStep L ap 6) 4) 3) 18)⟩ : TWindow)])),(7,oB true 4 eWindow [(⟨3,v3 + e5,f3 + (tNext L (tStep L (tStep L ap 6) 4) 3),1 + (tNext L (tStep L (tStep L (tStep L ap 6) 4) 3) 18)⟩ : TWindow)]),(2,.obj [pI f0,pI f1,pI f2,pI ((f3 + (tNext L (tStep L (tStep L ap 6) 4) 3)) + (1 + (tNext L (tStep L (tStep L (tStep L ap 6) 4) 3) 18)))]),(3,.obj [pI v0,pI v1,pI v2,pI ((v3 + e5) + (1 + (tNext L (tStep L (tStep L (tStep L ap 6) 4) 3) 18)))]),(6,.obj [pI 3,pI (v3 + e5),pI (f3 + (tNext L (tStep L (tStep L ap 6) 4) 3)),pI (1 + (tNext L (tStep L (tStep L (tStep L ap 6) 4) 3) 18))]),(0,.obj [pS 1 false encI L,pN (tStep L (tStep L (tStep L (tStep L ap 6) 4) 3) 18)]),(5,oB true 1 encI ([0,0,0,5] : List Int)),(4,oB true 1 encI ([3,0,3,1,2,3] : List Int))] 9 ⟨rfl,rfl,rfl,rfl,rfl,trivial⟩ rfl rfl ?_
    refine r_end ?_
    refine q_block ?_
    refine q_then ?_
    refine w_R ?_
    refine qm hnt rfl rfl ?_
    refine qo hnt rfl (s_subi (r := kk - 1) rfl rfl rfl (by omega) ?_)
    refine qa hnt rfl rfl ?_
    refine r_end ?_
    refine q_then ?_
    refine ⟨(tStep L (tStep L (tStep L (tStep L ap 6) 4) 3) 18),(os ++ [(⟨3,v3 + e5,f3 + (tNext L (tStep L (tStep L ap 6) 4) 3),1 + (tNext L (tStep L (tStep L (tStep L ap 6) 4) 3) 18)⟩ : TWindow)]),(f0),(f1),(f2),((f3 + (tNext L (tStep L (tStep L ap 6) 4) 3)) + (1 + (tNext L (tStep L (tStep L (tStep L ap 6) 4) 3) 18))),(v0),(v1),(v2),((v3 + e5) + (1 + (tNext L (tStep L (tStep L (tStep L ap 6) 4) 3) 18))),(kk - 1), ?_, ?_,⟨[(0,0),(1,8),(2,2),(3,3)],by rw [hk]; decide,⟨⟨_,rfl,rfl,rfl⟩,⟨_,rfl,rfl,rfl⟩,⟨_,rfl,rfl,rfl⟩,⟨_,rfl,rfl,rfl⟩,⟨_,rfl,rfl,rfl⟩,trivial⟩,⟨⟨_,_,rfl,rfl,rfl,rfl⟩,⟨_,_,rfl,rfl,rfl,rfl⟩,⟨_,_,rfl,rfl,rfl,rfl⟩,⟨_,_,rfl,rfl,rfl,rfl⟩,trivial⟩,by rw [hk]; decide⟩⟩
    ·
     refine ⟨by simp; omega,by omega, ?_⟩
     exact hW.step3 (by omega) (by omega) (by omega)
    · omega
  have c1_ := c1
  try simp only [sB] at c1
  refine w_exit ?_
  refine q_then_exit ?_
  refine q_then_exit ?_
  refine q_block_exit ?_
  refine q_then ?_
  refine w_seq ?_
  refine w_R ?_
  refine qm hnt rfl rfl ?_
  refine qa hnt rfl rfl ?_
  refine r_end ?_
  refine q_then ?_
  refine w_frzM (s := 4) (f := eWindow) rfl rfl view_0 ?_
  refine w_ret ?_
  have hex : WinsOk os := by
    exact hW.ok (by omega) (by omega)
  exact fin_names (nx1 := 1) (H1 := [(0,.obj [pS 1 false encI L,pN ap])]) [(0,0)] (ret_tmp rfl ret_nil) rfl (by decide) ⟨⟨_,_,rfl,rfl,rfl,rfl⟩,trivial⟩ (by decide) rfl ⟨(os),(ap),hex,rfl,rfl,rfl⟩
theorem w_burgagekeep_Tape_Table (L : List Int) (cl_L : Bool) (a : Nat) (hL : L.length ≤ 70000000000000) :
    T Try.prog 34 [PV.ptr 0 0] 1 [(0,.obj [pS 1 cl_L encI L,pN a])] (fun ra rb rc => ∃ X : TTable,∃ b : Nat,(TabG X) ∧ (Ret (PV.f (eTable X)) 1 [(0,.obj [pS 1 false encI L,pN b])]) ra rb rc) := by
 refine t_fun tabOk (n := 83) (rs := [.cell 2 73]) Try.func34 rfl rfl rfl rfl (Nat.le_of_ble_eq_true rfl) ?_
 intro c hnt hk
 refine w_seq ?_
 refine w_R ?_
 refine qo hnt rfl (s_alloc tab_73 ?_)
 refine r_set [(0,PV.ptr 0 0),(2,PV.ptr 1 0)] [(1,.obj [pI 0,pNil]),(0,.obj [pS 1 cl_L encI L,pN a])] 2 ⟨rfl,rfl,trivial⟩ rfl rfl ?_
 refine r_end ?_
 refine q_then ?_
 refine w_seq ?_
 refine w_R ?_
 refine qm hnt rfl rfl ?_
 refine qo hnt rfl (s_callX (r2 := pI (tNext L a 4)) (nx1 := 2) (H2 := [(1,.obj [pI 0,pNil]),(0,.obj [pS 1 cl_L encI L,pN a])]) (H3 := [(0,.obj [pS 1 false encI L,pN (tStep L a 4)]),(1,.obj [pI 0,pNil])]) [0] [.obj [pS 1 cl_L encI L,pN a]] rfl rfl rfl (handed_of (by decide) ⟨rfl,trivial⟩) rfl rfl rfl rfl rfl rfl (w_burgagekeep_Tape_Next L cl_L a 4 (by omega) (by omega)) rfl (dist_of rfl) rfl rfl rfl rfl ?_)
 have hb11 := tNext_lt L a (n := 4) (by decide)
 refine qo hnt rfl (s_addi (r := 1 + (tNext L a 4)) rfl rfl rfl (by omega) ?_)
 refine qa hnt rfl rfl ?_
 refine r_set [(0,PV.ptr 0 0),(2,PV.ptr 1 0),(3,pI (1 + (tNext L a 4)))] [(0,.obj [pS 1 false encI L,pN (tStep L a 4)]),(1,.obj [pI 0,pNil])] 2 ⟨rfl,rfl,rfl,trivial⟩ rfl rfl ?_
 refine r_end ?_
 refine q_then ?_
 refine w_seq ?_
 refine w_R ?_
 refine qo hnt rfl (s_alloc tab_73 ?_)
 refine r_set [(0,PV.ptr 0 0),(2,PV.ptr 1 0),(3,pI (1 + (tNext L a 4))),(4,PV.ptr 2 0)] [(2,.obj [pI 0,pNil]),(0,.obj [pS 1 false encI L,pN (tStep L a 4)]),(1,.obj [pI 0,pNil])] 3 ⟨rfl,rfl,rfl,rfl,trivial⟩ rfl rfl ?_
 refine r_end ?_
 refine q_then ?_
 refine w_seq ?_
 refine w_R ?_
 refine qm hnt rfl rfl ?_
 refine qo hnt rfl (s_callX (r2 := pI (tNext L (tStep L a 4) 5)) (nx1 := 3) (H2 := [(2,.obj [pI 0,pNil]),(0,.obj [pS 1 false encI L,pN (tStep L a 4)]),(1,.obj [pI 0,pNil])]) (H3 := [(0,.obj [pS 1 false encI L,pN (tStep L (tStep L a 4) 5)]),(2,.obj [pI 0,pNil]),(1,.obj [pI 0,pNil])]) [0] [.obj [pS 1 false encI L,pN (tStep L a 4)]] rfl rfl rfl (handed_of (by decide) ⟨rfl,trivial⟩) rfl rfl rfl rfl rfl rfl (w_burgagekeep_Tape_Next L false (tStep L a 4) 5 (by omega) (by omega)) rfl (dist_of rfl) rfl rfl rfl rfl ?_)
 have hb14 := tNext_lt L (tStep L a 4) (n := 5) (by decide)
 refine qa hnt rfl rfl ?_
 refine r_set [(0,PV.ptr 0 0),(2,PV.ptr 1 0),(3,pI (1 + (tNext L a 4))),(4,PV.ptr 2 0),(5,pI (tNext L (tStep L a 4) 5))] [(0,.obj [pS 1 false encI L,pN (tStep L (tStep L a 4) 5)]),(2,.obj [pI 0,pNil]),(1,.obj [pI 0,pNil])] 3 ⟨rfl,rfl,rfl,rfl,rfl,trivial⟩ rfl rfl ?_
 refine r_end ?_
 refine q_then ?_
 refine w_seq ?_
 refine w_seq ?_
 have hn4 := tNext_lt L a (n := 4) (by decide)
 refine w_R ?_
 refine qa hnt rfl rfl ?_
 refine r_end ?_
 refine q_then ?_
 refine w_block ?_
 refine w_adoptC (n := 2) (j := 1) (sz := 5) rfl rfl rfl ?_
 refine loop4 (fun (ap : Nat) (ts : List TTenant) (at1 : Int) (i : Nat) => (i : Int) ≤ 1 + tNext L a 4 ∧ ts.length = i ∧ (∀ p ∈ ts,WinsOk p.windows) ∧ 0 ≤ at1 ∧ at1 ≤ 5 + 172 * (i : Int)) (fun (ap : Nat) (ts : List TTenant) (at1 : Int) (i : Nat) => [(0,PV.ptr 0 0),(2,PV.ptr 3 0),(3,pI (1 + (tNext L a 4))),(4,PV.ptr 1 0),(5,pI at1),(6,pN i)]) 4 (fun (ap : Nat) (ts : List TTenant) (at1 : Int) (i : Nat) => [(0,.obj [pS 1 false encI L,pN ap]),(1,.obj [pI 0,PV.ref 2 0 none]),(2,oB true 5 eTenant ts),(3,.obj [pI 0,pNil])]) (fun (ap : Nat) (ts : List TTenant) (at1 : Int) (i : Nat) => (1 + tNext L a 4).toNat - i) (tStep L (tStep L a 4) 5) (([] : List TTenant)) (tNext L (tStep L a 4) 5) (0) ?_ ⟨[(0,0),(1,2),(2,3),(3,1)],by rw [hk]; decide,⟨⟨_,rfl,rfl,rfl⟩,⟨_,rfl,rfl,rfl⟩,⟨_,rfl,rfl,rfl⟩,⟨_,rfl,rfl,rfl⟩,⟨_,rfl,rfl,rfl⟩,⟨_,rfl,rfl,rfl⟩,trivial⟩,⟨⟨_,_,rfl,rfl,rfl,rfl⟩,⟨_,_,rfl,rfl,rfl,rfl⟩,⟨_,_,rfl,rfl,rfl,rfl⟩,⟨_,_,rfl,rfl,rfl,rfl⟩,trivial⟩,by rw [hk]; decide⟩ ?_
 · exact ⟨by omega,rfl,by simp,by omega,by omega⟩
 ·
  intro ap ts at1 i hI
  obtain ⟨hi,htl,hw,hat0,hat⟩ := hI
  refine w_seq ?_
  refine w_seq ?_
  refine w_R ?_
  refine qm hnt rfl rfl ?_
  refine qm hnt rfl rfl ?_
  refine qo hnt rfl (s_lss rfl rfl ?_)
  refine r_end ?_
  refine q_then ?_
  refine w_if rfl (fun c1 => ?_) (fun c1 => ?_)
  ·
   have c1_ := c1
   try simp only [sB] at c1
   refine w_skip ?_
   refine q_then ?_
   refine w_seq ?_
   refine w_block ?_
   refine w_seq ?_
   refine w_R ?_
   refine qm hnt rfl rfl ?_
   refine qo hnt rfl (s_callX (r2 := pI (tNext L ap 3)) (nx1 := 4) (H2 := [(0,.obj [pS 1 false encI L,pN ap]),(1,.obj [pI 0,PV.ref 2 0 none]),(2,oB true 5 eTenant ts),(3,.obj [pI 0,pNil])]) (H3 := [(0,.obj [pS 1 false encI L,pN (tStep L ap 3)]),(1,.obj [pI 0,PV.ref 2 0 none]),(2,oB true 5 eTenant ts),(3,.obj [pI 0,pNil])]) [0] [.obj [pS 1 false encI L,pN ap]] rfl rfl rfl (handed_of (by decide) ⟨rfl,trivial⟩) rfl rfl rfl rfl rfl rfl (w_burgagekeep_Tape_Next L false ap 3 (by omega) (by omega)) rfl (dist_of rfl) rfl rfl rfl rfl ?_)
   have hb21 := tNext_lt L ap (n := 3) (by decide)
   refine qo hnt rfl (s_addi (r := 1 + (tNext L ap 3)) rfl rfl rfl (by omega) ?_)
   refine qm hnt rfl rfl ?_
   refine qo hnt rfl (s_addi (r := (1 + (tNext L ap 3)) + ((i : Nat) : Int)) rfl rfl rfl (by omega) ?_)
   refine qm hnt rfl rfl ?_
   refine qo hnt rfl (s_callX (r2 := pI (tNext L (tStep L ap 3) 2)) (nx1 := 4) (H2 := [(0,.obj [pS 1 false encI L,pN (tStep L ap 3)]),(1,.obj [pI 0,PV.ref 2 0 none]),(2,oB true 5 eTenant ts),(3,.obj [pI 0,pNil])]) (H3 := [(0,.obj [pS 1 false encI L,pN (tStep L (tStep L ap 3) 2)]),(1,.obj [pI 0,PV.ref 2 0 none]),(2,oB true 5 eTenant ts),(3,.obj [pI 0,pNil])]) [0] [.obj [pS 1 false encI L,pN (tStep L ap 3)]] rfl rfl rfl (handed_of (by decide) ⟨rfl,trivial⟩) rfl rfl rfl rfl rfl rfl (w_burgagekeep_Tape_Next L false (tStep L ap 3) 2 (by omega) (by omega)) rfl (dist_of rfl) rfl rfl rfl rfl ?_)
   have hb26 := tNext_lt L (tStep L ap 3) (n := 2) (by decide)
   refine qo hnt rfl (s_conv tab_3 tab_75 rfl rfl rfl ?_)
   refine qo hnt rfl (s_shl rfl rfl (by decide) ?_)
   refine qo hnt rfl (s_or rfl rfl ?_)
   refine qm hnt rfl rfl ?_
   refine qo hnt rfl (s_callX (r2 := pI (tNext L (tStep L (tStep L ap 3) 2) 4)) (nx1 := 4) (H2 := [(0,.obj [pS 1 false encI L,pN (tStep L (tStep L ap 3) 2)]),(1,.obj [pI 0,PV.ref 2 0 none]),(2,oB true 5 eTenant ts),(3,.obj [pI 0,pNil])]) (H3 := [(0,.obj [pS 1 false encI L,pN (tStep L (tStep L (tStep L ap 3) 2) 4)]),(1,.obj [pI 0,PV.ref 2 0 none]),(2,oB true 5 eTenant ts),(3,.obj [pI 0,pNil])]) [0] [.obj [pS 1 false encI L,pN (tStep L (tStep L ap 3) 2)]] rfl rfl rfl (handed_of (by decide) ⟨rfl,trivial⟩) rfl rfl rfl rfl rfl rfl (w_burgagekeep_Tape_Next L false (tStep L (tStep L ap 3) 2) 4 (by omega) (by omega)) rfl (dist_of rfl) rfl rfl rfl rfl ?_)
   have hb31 := tNext_lt L (tStep L (tStep L ap 3) 2) (n := 4) (by decide)
   refine qo hnt rfl (s_addi (r := 1 + (tNext L (tStep L (tStep L ap 3) 2) 4)) rfl rfl rfl (by omega) ?_)
   refine qm hnt rfl rfl ?_
   refine qm hnt rfl rfl ?_
   refine qo hnt rfl (s_callX2 (p := fun (q1 : List TWindow) (b1 : Nat) => WinsOk q1) (r2 := fun q1 b1 => pS 4 false eWindow q1) (nx1 := 4) (H2 := [(0,.obj [pS 1 false encI L,pN (tStep L (tStep L (tStep L ap 3) 2) 4)]),(1,.obj [pI 0,PV.ref 2 0 none]),(2,oB true 5 eTenant ts),(3,.obj [pI 0,pNil])]) (H3 := fun q1 b1 => [(0,.obj [pS 1 false encI L,pN b1]),(1,.obj [pI 0,PV.ref 2 0 none]),(2,oB true 5 eTenant ts),(3,.obj [pI 0,pNil])]) [0] [.obj [pS 1 false encI L,pN (tStep L (tStep L (tStep L ap 3) 2) 4)]] rfl rfl rfl (handed_of (by decide) ⟨rfl,trivial⟩) rfl rfl rfl rfl rfl rfl (w_burgagekeep_Tape_windows L false (tStep L (tStep L (tStep L ap 3) 2) 4) i (by omega) (by omega)) (fun q1 b1 => rfl) (fun q1 b1 => dist_of rfl) (fun q1 b1 => rfl) (fun q1 b1 => rfl) rfl (fun q1 b1 => rfl) (fun q1 b1 hq1 => ?_))
   refine qo hnt rfl (s_build tab_78 rfl rfl (b_cons rfl tab_3 rfl rfl rfl (Nat.le_of_ble_eq_true rfl) (b_cons rfl tab_75 rfl rfl rfl (Nat.le_of_ble_eq_true rfl) (b_cons rfl tab_3 rfl rfl rfl (Nat.le_of_ble_eq_true rfl) (b_cons rfl tab_22 rfl rfl rfl (Nat.le_of_ble_eq_true rfl) (b_nilN (cs' := [pI ((1 + (tNext L ap 3)) + ((i : Nat) : Int)),pK .u32 (bitI .or .u32 12812798 (IntKind.u32.wrap ((IntKind.u32.wrap (tNext L (tStep L ap 3) 2)) * 2 ^ min (Int.toNat 9) IntKind.u32.bits))),pI (1 + (tNext L (tStep L (tStep L ap 3) 2) 4)),pS 4 false eWindow q1,pNil]) rfl ?_))))))
   refine qo hnt rfl (s_alloc tab_78 ?_)
   refine qo hnt rfl (s_store_ptr tab_78 rfl rfl rfl rfl rfl (Nat.le_of_ble_eq_true rfl) ?_)
   refine r_set [(0,PV.ptr 0 0),(2,PV.ptr 3 0),(3,pI (1 + (tNext L a 4))),(4,PV.ptr 1 0),(5,pI at1),(6,pN i),(7,PV.ptr 4 0)] [(4,.obj [pI ((1 + (tNext L ap 3)) + ((i : Nat) : Int)),pK .u32 (bitI .or .u32 12812798 (IntKind.u32.wrap ((IntKind.u32.wrap (tNext L (tStep L ap 3) 2)) * 2 ^ min (Int.toNat 9) IntKind.u32.bits))),pI (1 + (tNext L (tStep L (tStep L ap 3) 2) 4)),pS 4 false eWindow q1,pNil]),(0,.obj [pS 1 false encI L,pN b1]),(1,.obj [pI 0,PV.ref 2 0 none]),(2,oB true 5 eTenant ts),(3,.obj [pI 0,pNil])] 5 ⟨rfl,rfl,rfl,rfl,rfl,rfl,rfl,trivial⟩ rfl rfl ?_
   refine r_end ?_
   refine q_then ?_
   refine join2 (fun (a2 : Nat) (fu : Int) => True) (fun (a2 : Nat) (fu : Int) => [(0,PV.ptr 0 0),(2,PV.ptr 2 0),(3,pI (1 + (tNext L a 4))),(4,PV.ptr 3 0),(5,pI at1),(6,pN i),(7,PV.ptr 1 0)]) 5 (fun (a2 : Nat) (fu : Int) => [(0,.obj [pS 1 false encI L,pN a2]),(1,.obj [pI ((1 + (tNext L ap 3)) + ((i : Nat) : Int)),pK .u32 fu,pI (1 + (tNext L (tStep L (tStep L ap 3) 2) 4)),pS 4 false eWindow q1,pNil]),(2,.obj [pI 0,pNil]),(3,.obj [pI 0,PV.ref 4 0 none]),(4,oB true 5 eTenant ts)]) ?_ ?_
   ·
    refine w_seq ?_
    refine w_R ?_
    refine qm hnt rfl rfl ?_
    refine qo hnt rfl (s_callX (r2 := pI (tNext L b1 5)) (nx1 := 5) (H2 := [(4,.obj [pI ((1 + (tNext L ap 3)) + ((i : Nat) : Int)),pK .u32 (bitI .or .u32 12812798 (IntKind.u32.wrap ((IntKind.u32.wrap (tNext L (tStep L ap 3) 2)) * 2 ^ min (Int.toNat 9) IntKind.u32.bits))),pI (1 + (tNext L (tStep L (tStep L ap 3) 2) 4)),pS 4 false eWindow q1,pNil]),(0,.obj [pS 1 false encI L,pN b1]),(1,.obj [pI 0,PV.ref 2 0 none]),(2,oB true 5 eTenant ts),(3,.obj [pI 0,pNil])]) (H3 := [(0,.obj [pS 1 false encI L,pN (tStep L b1 5)]),(4,.obj [pI ((1 + (tNext L ap 3)) + ((i : Nat) : Int)),pK .u32 (bitI .or .u32 12812798 (IntKind.u32.wrap ((IntKind.u32.wrap (tNext L (tStep L ap 3) 2)) * 2 ^ min (Int.toNat 9) IntKind.u32.bits))),pI (1 + (tNext L (tStep L (tStep L ap 3) 2) 4)),pS 4 false eWindow q1,pNil]),(1,.obj [pI 0,PV.ref 2 0 none]),(2,oB true 5 eTenant ts),(3,.obj [pI 0,pNil])]) [0] [.obj [pS 1 false encI L,pN b1]] rfl rfl rfl (handed_of (by decide) ⟨rfl,trivial⟩) rfl rfl rfl rfl rfl rfl (w_burgagekeep_Tape_Next L false b1 5 (by omega) (by omega)) rfl (dist_of rfl) rfl rfl rfl rfl ?_)
    refine qo hnt rfl (s_eql rfl rfl ?_)
    refine r_set [(0,PV.ptr 0 0),(2,PV.ptr 3 0),(3,pI (1 + (tNext L a 4))),(4,PV.ptr 1 0),(5,pI at1),(6,pN i),(7,PV.ptr 4 0),(39,pB (decide (tNext L b1 5 = 0)))] [(0,.obj [pS 1 false encI L,pN (tStep L b1 5)]),(4,.obj [pI ((1 + (tNext L ap 3)) + ((i : Nat) : Int)),pK .u32 (bitI .or .u32 12812798 (IntKind.u32.wrap ((IntKind.u32.wrap (tNext L (tStep L ap 3) 2)) * 2 ^ min (Int.toNat 9) IntKind.u32.bits))),pI (1 + (tNext L (tStep L (tStep L ap 3) 2) 4)),pS 4 false eWindow q1,pNil]),(1,.obj [pI 0,PV.ref 2 0 none]),(2,oB true 5 eTenant ts),(3,.obj [pI 0,pNil])] 5 ⟨rfl,rfl,rfl,rfl,rfl,rfl,rfl,rfl,trivial⟩ rfl rfl ?_
    refine r_end ?_
    refine q_then ?_
    refine w_if rfl (fun c2 => ?_) (fun c2 => ?_)
    ·
     have c2_ := c2
     try simp only [sB] at c2
     refine w_R ?_
     refine qm hnt rfl rfl ?_
     refine qo hnt rfl (s_callX (r2 := pI (tNext L (tStep L b1 5) 24)) (nx1 := 5) (H2 := [(0,.obj [pS 1 false encI L,pN (tStep L b1 5)]),(4,.obj [pI ((1 + (tNext L ap 3)) + ((i : Nat) : Int)),pK .u32 (bitI .or .u32 12812798 (IntKind.u32.wrap ((IntKind.u32.wrap (tNext L (tStep L ap 3) 2)) * 2 ^ min (Int.toNat 9) IntKind.u32.bits))),pI (1 + (tNext L (tStep L (tStep L ap 3) 2) 4)),pS 4 false eWindow q1,pNil]),(1,.obj [pI 0,PV.ref 2 0 none]),(2,oB true 5 eTenant ts),(3,.obj [pI 0,pNil])]) (H3 := [(0,.obj [pS 1 false encI L,pN (tStep L (tStep L b1 5) 24)]),(4,.obj [pI ((1 + (tNext L ap 3)) + ((i : Nat) : Int)),pK .u32 (bitI .or .u32 12812798 (IntKind.u32.wrap ((IntKind.u32.wrap (tNext L (tStep L ap 3) 2)) * 2 ^ min (Int.toNat 9) IntKind.u32.bits))),pI (1 + (tNext L (tStep L (tStep L ap 3) 2) 4)),pS 4 false eWindow q1,pNil]),(1,.obj [pI 0,PV.ref 2 0 none]),(2,oB true 5 eTenant ts),(3,.obj [pI 0,pNil])]) [0] [.obj [pS 1 false encI L,pN (tStep L b1 5)]] rfl rfl rfl (handed_of (by decide) ⟨rfl,trivial⟩) rfl rfl rfl rfl rfl rfl (w_burgagekeep_Tape_Next L false (tStep L b1 5) 24 (by omega) (by omega)) rfl (dist_of rfl) rfl rfl rfl rfl ?_)
     have hb41 := tNext_lt L (tStep L b1 5) (n := 24) (by decide)
     refine qo hnt rfl (s_conv tab_3 tab_62 rfl rfl rfl ?_)
     refine qo hnt rfl (s_shl rfl rfl (by exact wrapU_nn rfl _) ?_)
     refine qo hnt rfl (s_or rfl rfl ?_)
     refine qo hnt rfl (s_fa_ptr tab_78 rfl rfl tab_75 (by decide) rfl ?_)
     refine qo hnt rfl (s_store_ptr tab_75 rfl rfl rfl rfl rfl (Nat.le_of_ble_eq_true rfl) ?_)
     refine r_end ?_
     refine q_then ?_
     refine ⟨(tStep L (tStep L b1 5) 24),(bitI .or .u32 65608 (IntKind.u32.wrap (1 * 2 ^ min (Int.toNat (IntKind.u64.wrap (tNext L (tStep L b1 5) 24))) IntKind.u32.bits))), ?_,⟨[(0,0),(1,4),(2,3),(3,1),(4,2)],by rw [hk]; decide,⟨⟨_,rfl,rfl,rfl⟩,⟨_,rfl,rfl,rfl⟩,⟨_,rfl,rfl,rfl⟩,⟨_,rfl,rfl,rfl⟩,⟨_,rfl,rfl,rfl⟩,⟨_,rfl,rfl,rfl⟩,⟨_,rfl,rfl,rfl⟩,trivial⟩,⟨⟨_,_,rfl,rfl,rfl,rfl⟩,⟨_,_,rfl,rfl,rfl,rfl⟩,⟨_,_,rfl,rfl,rfl,rfl⟩,⟨_,_,rfl,rfl,rfl,rfl⟩,⟨_,_,rfl,rfl,rfl,rfl⟩,trivial⟩,by rw [hk]; decide⟩⟩
     trivial
    have c2_ := c2
    try simp only [sB] at c2
    refine w_skip ?_
    refine q_then ?_
    refine ⟨(tStep L b1 5),(bitI .or .u32 12812798 (IntKind.u32.wrap ((IntKind.u32.wrap (tNext L (tStep L ap 3) 2)) * 2 ^ min (Int.toNat 9) IntKind.u32.bits))), ?_,⟨[(0,0),(1,4),(2,3),(3,1),(4,2)],by rw [hk]; decide,⟨⟨_,rfl,rfl,rfl⟩,⟨_,rfl,rfl,rfl⟩,⟨_,rfl,rfl,rfl⟩,⟨_,rfl,rfl,rfl⟩,⟨_,rfl,rfl,rfl⟩,⟨_,rfl,rfl,rfl⟩,⟨_,rfl,rfl,rfl⟩,trivial⟩,⟨⟨_,_,rfl,rfl,rfl,rfl⟩,⟨_,_,rfl,rfl,rfl,rfl⟩,⟨_,_,rfl,rfl,rfl,rfl⟩,⟨_,_,rfl,rfl,rfl,rfl⟩,⟨_,_,rfl,rfl,rfl,rfl⟩,trivial⟩,by rw [hk]; decide⟩⟩
    trivial
   intro a2 fu hJ
   refine w_seq ?_
   refine w_seq ?_
   refine w_R ?_
   refine qm hnt rfl rfl ?_
   refine qo hnt rfl (s_callX (r2 := pI (tNext L a2 2)) (nx1 := 5) (H2 := [(0,.obj [pS 1 false encI L,pN a2]),(1,.obj [pI ((1 + (tNext L ap 3)) + ((i : Nat) : Int)),pK .u32 fu,pI (1 + (tNext L (tStep L (tStep L ap 3) 2) 4)),pS 4 false eWindow q1,pNil]),(2,.obj [pI 0,pNil]),(3,.obj [pI 0,PV.ref 4 0 none]),(4,oB true 5 eTenant ts)]) (H3 := [(0,.obj [pS 1 false encI L,pN (tStep L a2 2)]),(1,.obj [pI ((1 + (tNext L ap 3)) + ((i : Nat) : Int)),pK .u32 fu,pI (1 + (tNext L (tStep L (tStep L ap 3) 2) 4)),pS 4 false eWindow q1,pNil]),(2,.obj [pI 0,pNil]),(3,.obj [pI 0,PV.ref 4 0 none]),(4,oB true 5 eTenant ts)]) [0] [.obj [pS 1 false encI L,pN a2]] rfl rfl rfl (handed_of (by decide) ⟨rfl,trivial⟩) rfl rfl rfl rfl rfl rfl (w_burgagekeep_Tape_Next L false a2 2 (by omega) (by omega)) rfl (dist_of rfl) rfl rfl rfl rfl ?_)
   have hb47 := tNext_lt L a2 (n := 2) (by decide)
   refine qa hnt rfl rfl ?_
   refine r_set [(0,PV.ptr 0 0),(2,PV.ptr 2 0),(3,pI (1 + (tNext L a 4))),(4,PV.ptr 3 0),(5,pI at1),(6,pN i),(7,PV.ptr 1 0),(8,pI (tNext L a2 2))] [(0,.obj [pS 1 false encI L,pN (tStep L a2 2)]),(1,.obj [pI ((1 + (tNext L ap 3)) + ((i : Nat) : Int)),pK .u32 fu,pI (1 + (tNext L (tStep L (tStep L ap 3) 2) 4)),pS 4 false eWindow q1,pNil]),(2,.obj [pI 0,pNil]),(3,.obj [pI 0,PV.ref 4 0 none]),(4,oB true 5 eTenant ts)] 5 ⟨rfl,rfl,rfl,rfl,rfl,rfl,rfl,rfl,trivial⟩ rfl rfl ?_
   refine r_end ?_
   refine q_then ?_
   refine w_block ?_
   refine w_adoptC (n := 1) (j := 4) (sz := 2) rfl rfl rfl ?_
   refine loop4 (fun (a3 : Nat) (at2 : Int) (sl : List TSlot) (kk : Int) => 0 ≤ at2 ∧ at2 + 86 * (kk + 1) ≤ at1 + 172 ∧ -1 ≤ kk ∧ (sl.length : Int) + kk ≤ 1) (fun (a3 : Nat) (at2 : Int) (sl : List TSlot) (kk : Int) => [(0,PV.ptr 0 0),(2,PV.ptr 3 0),(3,pI (1 + (tNext L a 4))),(4,PV.ptr 4 0),(5,pI at2),(6,pN i),(7,PV.ptr 1 0),(8,pI kk)]) 6 (fun (a3 : Nat) (at2 : Int) (sl : List TSlot) (kk : Int) => [(0,.obj [pS 1 false encI L,pN a3]),(1,.obj [pI ((1 + (tNext L ap 3)) + ((i : Nat) : Int)),pK .u32 fu,pI (1 + (tNext L (tStep L (tStep L ap 3) 2) 4)),pS 4 false eWindow q1,PV.ref 2 0 none]),(2,oB true 2 eSlot sl),(3,.obj [pI 0,pNil]),(4,.obj [pI 0,PV.ref 5 0 none]),(5,oB true 5 eTenant ts)]) (fun (a3 : Nat) (at2 : Int) (sl : List TSlot) (kk : Int) => (kk + 1).toNat) (tStep L a2 2) (at1) (([] : List TSlot)) (tNext L a2 2) ?_ ⟨[(0,0),(1,1),(2,5),(3,2),(4,3),(5,4)],by rw [hk]; decide,⟨⟨_,rfl,rfl,rfl⟩,⟨_,rfl,rfl,rfl⟩,⟨_,rfl,rfl,rfl⟩,⟨_,rfl,rfl,rfl⟩,⟨_,rfl,rfl,rfl⟩,⟨_,rfl,rfl,rfl⟩,⟨_,rfl,rfl,rfl⟩,⟨_,rfl,rfl,rfl⟩,trivial⟩,⟨⟨_,_,rfl,rfl,rfl,rfl⟩,⟨_,_,rfl,rfl,rfl,rfl⟩,⟨_,_,rfl,rfl,rfl,rfl⟩,⟨_,_,rfl,rfl,rfl,rfl⟩,⟨_,_,rfl,rfl,rfl,rfl⟩,⟨_,_,rfl,rfl,rfl,rfl⟩,trivial⟩,by rw [hk]; decide⟩ ?_
   · exact ⟨by omega,by omega,by omega,by simp; omega⟩
   ·
    intro a3 at2 sl kk hK
    obtain ⟨ha20,ha2,hkk,hsl⟩ := hK
    refine w_seq ?_
    refine w_seq ?_
    refine w_R ?_
    refine qm hnt rfl rfl ?_
    refine qo hnt rfl (s_geq rfl rfl ?_)
    refine r_end ?_
    refine q_then ?_
    refine w_if rfl (fun c3 => ?_) (fun c3 => ?_)
    ·
     have c3_ := c3
     try simp only [sB] at c3
     refine w_skip ?_
     refine q_then ?_
     refine w_seq ?_
     refine w_block ?_
     refine w_seq ?_
     refine w_R ?_
     refine qm hnt rfl rfl ?_
     refine qm hnt rfl rfl ?_
     refine qo hnt rfl (s_callX (r2 := pI (tNext L a3 9)) (nx1 := 6) (H2 := [(0,.obj [pS 1 false encI L,pN a3]),(1,.obj [pI ((1 + (tNext L ap 3)) + ((i : Nat) : Int)),pK .u32 fu,pI (1 + (tNext L (tStep L (tStep L ap 3) 2) 4)),pS 4 false eWindow q1,PV.ref 2 0 none]),(2,oB true 2 eSlot sl),(3,.obj [pI 0,pNil]),(4,.obj [pI 0,PV.ref 5 0 none]),(5,oB true 5 eTenant ts)]) (H3 := [(0,.obj [pS 1 false encI L,pN (tStep L a3 9)]),(1,.obj [pI ((1 + (tNext L ap 3)) + ((i : Nat) : Int)),pK .u32 fu,pI (1 + (tNext L (tStep L (tStep L ap 3) 2) 4)),pS 4 false eWindow q1,PV.ref 2 0 none]),(2,oB true 2 eSlot sl),(3,.obj [pI 0,pNil]),(4,.obj [pI 0,PV.ref 5 0 none]),(5,oB true 5 eTenant ts)]) [0] [.obj [pS 1 false encI L,pN a3]] rfl rfl rfl (handed_of (by decide) ⟨rfl,trivial⟩) rfl rfl rfl rfl rfl rfl (w_burgagekeep_Tape_Next L false a3 9 (by omega) (by omega)) rfl (dist_of rfl) rfl rfl rfl rfl ?_)
     have hb54 := tNext_lt L a3 (n := 9) (by decide)
     refine qo hnt rfl (s_addi (r := 72 + (tNext L a3 9)) rfl rfl rfl (by omega) ?_)
     refine qo hnt rfl (s_build tab_117 rfl rfl (b_cons rfl tab_3 rfl rfl rfl (Nat.le_of_ble_eq_true rfl) (b_cons rfl tab_3 rfl rfl rfl (Nat.le_of_ble_eq_true rfl) (b_nil ?_))))
     refine qo hnt rfl (s_alloc tab_117 ?_)
     refine qo hnt rfl (s_store_ptr tab_117 rfl rfl rfl rfl rfl (Nat.le_of_ble_eq_true rfl) ?_)
     refine r_set [(0,PV.ptr 0 0),(2,PV.ptr 3 0),(3,pI (1 + (tNext L a 4))),(4,PV.ptr 4 0),(6,pN i),(7,PV.ptr 1 0),(8,pI kk),(9,PV.ptr 6 0)] [(6,.obj [pI at2,pI (72 + (tNext L a3 9))]),(0,.obj [pS 1 false encI L,pN (tStep L a3 9)]),(1,.obj [pI ((1 + (tNext L ap 3)) + ((i : Nat) : Int)),pK .u32 fu,pI (1 + (tNext L (tStep L (tStep L ap 3) 2) 4)),pS 4 false eWindow q1,PV.ref 2 0 none]),(2,oB true 2 eSlot sl),(3,.obj [pI 0,pNil]),(4,.obj [pI 0,PV.ref 5 0 none]),(5,oB true 5 eTenant ts)] 7 ⟨rfl,rfl,rfl,rfl,rfl,rfl,rfl,rfl,trivial⟩ rfl rfl ?_
     refine r_end ?_
     refine q_then ?_
     refine w_seq ?_
     refine W_drawn tabOk mixed hnt [[],[0],[],[2],[0,1,2,3],[],[5],[0,1,2,3,4,5,6],[0,1,2,3,4,5,6,7]] (by kernel_rfl) ?_
     refine d_op ?_
     refine x_run0 [(9,PV.ptr 6 0)] [] rfl rfl rfl rfl (s_fa_ptr tab_117 rfl rfl tab_3 (by decide) rfl ⟨rfl,rfl,rfl⟩) ?_
     refine d_op ?_
     refine xL [(57,PV.ptr 6 0)] [0] [(6,.obj [pI at2,pI (72 + (tNext L a3 9))])] rfl rfl rfl rfl rfl (s_load_ptr1 tab_3 rfl rfl rfl rfl rfl ⟨rfl,rfl,rfl⟩) ⟨rfl,trivial⟩ rfl ?_
     refine d_op ?_
     refine x_run0 [(9,PV.ptr 6 0)] [] rfl rfl rfl rfl (s_fa_ptr tab_117 rfl rfl tab_3 (by decide) rfl ⟨rfl,rfl,rfl⟩) ?_
     refine d_op ?_
     refine xL [(59,PV.ptr 6 1)] [2] [(6,.obj [pI at2,pI (72 + (tNext L a3 9))])] rfl rfl rfl rfl rfl (s_load_ptr1 tab_3 rfl rfl rfl rfl rfl ⟨rfl,rfl,rfl⟩) ⟨rfl,trivial⟩ rfl ?_
     refine d_op ?_
     refine x_run0 [(58,pI at2),(60,pI (72 + (tNext L a3 9)))] [0,1,2,3] rfl rfl rfl rfl (s_addi (r := at2 + (72 + (tNext L a3 9))) rfl rfl rfl (by omega) ⟨rfl,rfl,rfl⟩) ?_
     refine d_op ?_
     refine x_run0 [(0,PV.ptr 0 0)] [] rfl rfl rfl rfl (s_move rfl ⟨rfl,rfl,rfl⟩) ?_
     refine d_op ?_
     refine xT [(62,PV.ptr 0 0)] [5] [(0,.obj [pS 1 false encI L,pN (tStep L a3 9)])] [(0,.obj [pS 1 false encI L,pN (tStep L (tStep L a3 9) 7)])] [(6,.obj [pI at2,pI (72 + (tNext L a3 9))]),(1,.obj [pI ((1 + (tNext L ap 3)) + ((i : Nat) : Int)),pK .u32 fu,pI (1 + (tNext L (tStep L (tStep L ap 3) 2) 4)),pS 4 false eWindow q1,PV.ref 2 0 none]),(2,oB true 2 eSlot sl),(3,.obj [pI 0,pNil]),(4,.obj [pI 0,PV.ref 5 0 none]),(5,oB true 5 eTenant ts)] rfl rfl rfl rfl rfl (s_callX (r2 := pI (tNext L (tStep L a3 9) 7)) (nx1 := 7) (H2 := [(0,.obj [pS 1 false encI L,pN (tStep L a3 9)])]) (H3 := [(0,.obj [pS 1 false encI L,pN (tStep L (tStep L a3 9) 7)])]) [0] [.obj [pS 1 false encI L,pN (tStep L a3 9)]] rfl rfl rfl (handed_of (by decide) ⟨rfl,trivial⟩) rfl rfl rfl rfl rfl rfl (w_burgagekeep_Tape_Next L false (tStep L a3 9) 7 (by omega) (by omega)) rfl (dist_of rfl) rfl rfl rfl rfl ⟨rfl,rfl,rfl⟩) rfl rfl ?_
     have hb63 := tNext_lt L (tStep L a3 9) (n := 7) (by decide)
     refine d_op ?_
     refine x_run0 [(61,pI (at2 + (72 + (tNext L a3 9)))),(63,pI (tNext L (tStep L a3 9) 7))] [0,1,2,3,4,5,6] rfl rfl rfl rfl (s_addi (r := (at2 + (72 + (tNext L a3 9))) + (tNext L (tStep L a3 9) 7)) rfl rfl rfl (by omega) ⟨rfl,rfl,rfl⟩) ?_
     refine d_op ?_
     refine x_run0 [(64,pI ((at2 + (72 + (tNext L a3 9))) + (tNext L (tStep L a3 9) 7)))] [0,1,2,3,4,5,6,7] rfl rfl rfl rfl (s_assign rfl ⟨rfl,rfl,rfl⟩) ?_
     refine d_end ⟨by kernel_rfl, ?_⟩
     refine q_then ?_
     refine w_R ?_
     refine qo hnt rfl (s_fa_ptr tab_78 rfl rfl tab_76 (by decide) rfl ?_)
     refine qo hnt rfl (s_load_ptr1 tab_76 rfl rfl rfl rfl rfl ?_)
     refine qo hnt rfl (s_load_ptr tab_117 rfl rfl rfl (Nat.le_of_ble_eq_true rfl) ?_)
     refine qo hnt rfl (s_mkM (f := eSlot) [(⟨at2,72 + (tNext L a3 9)⟩ : TSlot)] tab_76 rfl tab_117 ⟨rfl,by decide⟩ (by decide) rfl rfl rfl rfl ?_)
     refine qo hnt rfl (s_appR0 (f := eSlot) (l := sl) (xs := [(⟨at2,72 + (tNext L a3 9)⟩ : TSlot)]) tab_76 rfl tab_117 ⟨rfl,by decide,by decide⟩ (srcM tab_76 rfl (hM_ref0 (f := eSlot) rfl rfl)) rfl rfl (by (simp; omega)) ?_)
     refine qo hnt rfl (s_fa_ptr tab_78 rfl rfl tab_76 (by decide) rfl ?_)
     refine qo hnt rfl (s_store_ptr tab_76 rfl rfl rfl rfl rfl (Nat.le_of_ble_eq_true rfl) ?_)
     refine r_set [(0,PV.ptr 0 0),(2,PV.ptr 3 0),(3,pI (1 + (tNext L a 4))),(4,PV.ptr 4 0),(5,pI ((at2 + (72 + (tNext L a3 9))) + (tNext L (tStep L a3 9) 7))),(6,pN i),(7,PV.ptr 1 0),(8,pI kk)] [(1,.obj [pI ((1 + (tNext L ap 3)) + ((i : Nat) : Int)),pK .u32 fu,pI (1 + (tNext L (tStep L (tStep L ap 3) 2) 4)),pS 4 false eWindow q1,PV.ref 8 0 none]),(8,oB true 2 eSlot (sl ++ [(⟨at2,72 + (tNext L a3 9)⟩ : TSlot)])),(7,oB true 2 eSlot [(⟨at2,72 + (tNext L a3 9)⟩ : TSlot)]),(0,.obj [pS 1 false encI L,pN (tStep L (tStep L a3 9) 7)]),(6,.obj [pI at2,pI (72 + (tNext L a3 9))]),(3,.obj [pI 0,pNil]),(4,.obj [pI 0,PV.ref 5 0 none]),(5,oB true 5 eTenant ts)] 9 ⟨rfl,rfl,rfl,rfl,rfl,rfl,rfl,rfl,trivial⟩ rfl rfl ?_
     refine r_end ?_
     refine q_block ?_
     refine q_then ?_
     refine w_R ?_
     refine qm hnt rfl rfl ?_
     refine qo hnt rfl (s_subi (r := kk - 1) rfl rfl rfl (by omega) ?_)
     refine qa hnt rfl rfl ?_
     refine r_end ?_
     refine q_then ?_
     refine ⟨(tStep L (tStep L a3 9) 7),((at2 + (72 + (tNext L a3 9))) + (tNext L (tStep L a3 9) 7)),(sl ++ [(⟨at2,72 + (tNext L a3 9)⟩ : TSlot)]),(kk - 1), ?_, ?_,⟨[(0,0),(1,1),(2,8),(3,3),(4,4),(5,5)],by rw [hk]; decide,⟨⟨_,rfl,rfl,rfl⟩,⟨_,rfl,rfl,rfl⟩,⟨_,rfl,rfl,rfl⟩,⟨_,rfl,rfl,rfl⟩,⟨_,rfl,rfl,rfl⟩,⟨_,rfl,rfl,rfl⟩,⟨_,rfl,rfl,rfl⟩,⟨_,rfl,rfl,rfl⟩,trivial⟩,⟨⟨_,_,rfl,rfl,rfl,rfl⟩,⟨_,_,rfl,rfl,rfl,rfl⟩,⟨_,_,rfl,rfl,rfl,rfl⟩,⟨_,_,rfl,rfl,rfl,rfl⟩,⟨_,_,rfl,rfl,rfl,rfl⟩,⟨_,_,rfl,rfl,rfl,rfl⟩,trivial⟩,by rw [hk]; decide⟩⟩
     ·
      exact ⟨by omega,by omega,by omega,by simp; omega⟩
     · omega
    have c3_ := c3
    try simp only [sB] at c3
    refine w_exit ?_
    refine q_then_exit ?_
    refine q_then_exit ?_
    refine q_block_exit ?_
    refine q_then ?_
    refine w_R ?_
    refine qo hnt rfl (s_fa_ptr tab_73 rfl rfl tab_71 (by decide) rfl ?_)
    refine qo hnt rfl (s_load_ptr1 tab_71 rfl rfl rfl rfl rfl ?_)
    refine qo hnt rfl (s_load_ptr tab_78 rfl rfl rfl (Nat.le_of_ble_eq_true rfl) ?_)
    refine qo hnt rfl (s_mkM (f := eTenant) [(⟨(1 + (tNext L ap 3)) + ((i : Nat) : Int),fu,1 + (tNext L (tStep L (tStep L ap 3) 2) 4),q1,sl⟩ : TTenant)] tab_71 rfl tab_78 ⟨rfl,by decide⟩ (by decide) rfl rfl rfl rfl ?_)
    refine qo hnt rfl (s_appR0 (f := eTenant) (l := ts) (xs := [(⟨(1 + (tNext L ap 3)) + ((i : Nat) : Int),fu,1 + (tNext L (tStep L (tStep L ap 3) 2) 4),q1,sl⟩ : TTenant)]) tab_71 rfl tab_78 ⟨rfl,by decide,by decide⟩ (srcM tab_71 rfl (hM_ref0 (f := eTenant) rfl rfl)) rfl rfl (by (simp; omega)) ?_)
    refine qo hnt rfl (s_fa_ptr tab_73 rfl rfl tab_71 (by decide) rfl ?_)
    refine qo hnt rfl (s_store_ptr tab_71 rfl rfl rfl rfl rfl (Nat.le_of_ble_eq_true rfl) ?_)
    refine r_set [(0,PV.ptr 0 0),(2,PV.ptr 3 0),(3,pI (1 + (tNext L a 4))),(4,PV.ptr 4 0),(5,pI at2),(6,pN i)] [(4,.obj [pI 0,PV.ref 7 0 none]),(7,oB true 5 eTenant (ts ++ [(⟨(1 + (tNext L ap 3)) + ((i : Nat) : Int),fu,1 + (tNext L (tStep L (tStep L ap 3) 2) 4),q1,sl⟩ : TTenant)])),(6,oB true 5 eTenant [(⟨(1 + (tNext L ap 3)) + ((i : Nat) : Int),fu,1 + (tNext L (tStep L (tStep L ap 3) 2) 4),q1,sl⟩ : TTenant)]),(2,oB false 2 eSlot sl),(0,.obj [pS 1 false encI L,pN a3]),(1,.obj [pI ((1 + (tNext L ap 3)) + ((i : Nat) : Int)),pK .u32 fu,pI (1 + (tNext L (tStep L (tStep L ap 3) 2) 4)),pS 4 false eWindow q1,PV.ref 2 0 none]),(3,.obj [pI 0,pNil])] 8 ⟨rfl,rfl,rfl,rfl,rfl,rfl,trivial⟩ rfl rfl ?_
    refine r_end ?_
    refine q_block ?_
    refine q_then ?_
    refine w_R ?_
    refine qm hnt rfl rfl ?_
    refine qo hnt rfl (s_addN (a := i) (b := 1) rfl rfl (by omega) (by omega) (by omega) ?_)
    refine qa hnt rfl rfl ?_
    refine r_end ?_
    refine q_then ?_
    refine ⟨(a3),(ts ++ [(⟨(1 + (tNext L ap 3)) + ((i : Nat) : Int),fu,1 + (tNext L (tStep L (tStep L ap 3) 2) 4),q1,sl⟩ : TTenant)]),(at2),(i + 1), ?_, ?_,⟨[(0,0),(1,4),(2,7),(3,3)],by rw [hk]; decide,⟨⟨_,rfl,rfl,rfl⟩,⟨_,rfl,rfl,rfl⟩,⟨_,rfl,rfl,rfl⟩,⟨_,rfl,rfl,rfl⟩,⟨_,rfl,rfl,rfl⟩,⟨_,rfl,rfl,rfl⟩,trivial⟩,⟨⟨_,_,rfl,rfl,rfl,rfl⟩,⟨_,_,rfl,rfl,rfl,rfl⟩,⟨_,_,rfl,rfl,rfl,rfl⟩,⟨_,_,rfl,rfl,rfl,rfl⟩,trivial⟩,by rw [hk]; decide⟩⟩
    ·
     refine ⟨by omega,by simp; omega,fun p hp => ?_,by omega,by omega⟩
     rcases List.mem_append.1 hp with h|h
     · exact hw p h
     · have h := List.mem_singleton.1 h; subst h; exact hq1
    · omega
  have c1_ := c1
  try simp only [sB] at c1
  refine w_exit ?_
  refine q_then_exit ?_
  refine q_then_exit ?_
  refine q_block_exit ?_
  refine q_then ?_
  refine w_seq ?_
  refine w_R ?_
  refine qm hnt rfl rfl ?_
  refine qm hnt rfl rfl ?_
  refine qo hnt rfl (s_callX (r2 := pI (tNext L ap 20)) (nx1 := 4) (H2 := [(0,.obj [pS 1 false encI L,pN ap]),(1,.obj [pI 0,PV.ref 2 0 none]),(2,oB true 5 eTenant ts),(3,.obj [pI 0,pNil])]) (H3 := [(0,.obj [pS 1 false encI L,pN (tStep L ap 20)]),(1,.obj [pI 0,PV.ref 2 0 none]),(2,oB true 5 eTenant ts),(3,.obj [pI 0,pNil])]) [0] [.obj [pS 1 false encI L,pN ap]] rfl rfl rfl (handed_of (by decide) ⟨rfl,trivial⟩) rfl rfl rfl rfl rfl rfl (w_burgagekeep_Tape_Next L false ap 20 (by omega) (by omega)) rfl (dist_of rfl) rfl rfl rfl rfl ?_)
  have hb79 := tNext_lt L ap (n := 20) (by decide)
  refine qo hnt rfl (s_addi (r := at1 + (tNext L ap 20)) rfl rfl rfl (by omega) ?_)
  refine qo hnt rfl (s_fa_ptr tab_73 rfl rfl tab_3 (by decide) rfl ?_)
  refine qo hnt rfl (s_store_ptr tab_3 rfl rfl rfl rfl rfl (Nat.le_of_ble_eq_true rfl) ?_)
  refine r_set [(2,PV.ptr 3 0),(4,PV.ptr 1 0)] [(1,.obj [pI (at1 + (tNext L ap 20)),PV.ref 2 0 none]),(0,.obj [pS 1 false encI L,pN (tStep L ap 20)]),(2,oB true 5 eTenant ts),(3,.obj [pI 0,pNil])] 4 ⟨rfl,rfl,trivial⟩ rfl rfl ?_
  refine r_end ?_
  refine q_then ?_
  refine w_seq ?_
  refine w_R ?_
  refine qo hnt rfl (s_load_ptr tab_73 rfl rfl rfl (Nat.le_of_ble_eq_true rfl) ?_)
  refine qo hnt rfl (s_store_ptr tab_73 rfl rfl rfl rfl rfl (Nat.le_of_ble_eq_true rfl) ?_)
  refine r_set [(2,PV.ptr 3 0)] [(3,.obj [pI (at1 + (tNext L ap 20)),PV.ref 2 0 none]),(1,.obj [pI (at1 + (tNext L ap 20)),PV.ref 2 0 none]),(0,.obj [pS 1 false encI L,pN (tStep L ap 20)]),(2,oB true 5 eTenant ts)] 4 ⟨rfl,trivial⟩ rfl rfl ?_
  refine r_end ?_
  refine q_then ?_
  refine w_frzC (n := 3) (j := 1) rfl rfl rfl rfl ?_
  refine w_ret ?_
  have hex : TabG (⟨at1 + (tNext L ap 20),ts⟩ : TTable) := by
    exact ⟨⟨by simp only; omega,by simp only; omega⟩,hw⟩
  exact fin_names (nx1 := 1) (H1 := [(0,.obj [pS 1 false encI L,pN (tStep L ap 20)])]) [(0,0)] (ret_cell tab_73 (by decide) rfl rfl (Nat.le_of_ble_eq_true rfl) rfl ret_nil) rfl (by decide) ⟨⟨_,_,rfl,rfl,rfl,rfl⟩,trivial⟩ (by decide) rfl ⟨((⟨at1 + (tNext L ap 20),ts⟩ : TTable)),(tStep L ap 20),hex,rfl,rfl,rfl⟩
end Go.Proofs.Ytljkbpgcglomfaa
set_option linter.unusedVariables false
namespace Go.Proofs.Ytljkbpgcglomfaa
open Go Go.Proofs.Ytljkbpgcglomfaa.Pv
def tapeF (c k i : Nat) : Int := (((i * i * 7 + k * c + i * k) % 211 : Nat) : Int)
def tapeL (c k : Nat) : List Int := (List.range 900).map (tapeF c k)
theorem tapeL_len (c k : Nat) : (tapeL c k).length = 900 := by unfold tapeL; simp
theorem tape_snoc (c k i : Nat) : (List.range i).map (tapeF c k) ++ [(((i * i * 7 + k * c + i * k) % 211 : Nat) : Int)] = (List.range (i + 1)).map (tapeF c k) := by rw [List.range_succ,List.map_append]; rfl
end Go.Proofs.Ytljkbpgcglomfaa
set_option linter.unusedVariables false
set_option linter.unusedSimpArgs false
namespace Go.Proofs.Ytljkbpgcglomfaa
open Go Go.Proofs.Ytljkbpgcglomfaa.Pv
def LK : List TWindow := [⟨3,0,100,4⟩,⟨3,4,50,4⟩]
theorem kn_of : (ofL LK 3).map vSp = [⟨0,4⟩,⟨4,4⟩] := by decide
theorem kn_c1 : coverL [⟨0,4⟩,⟨4,4⟩] ⟨2,4⟩ = some [⟨2,2⟩,⟨4,2⟩] := by
  unfold coverL
  rw [if_pos (by decide),covGo_step (i := 0) (x := ⟨0,4⟩) (by decide) (by decide) rfl (by decide),covGo_step (i := 1) (x := ⟨4,4⟩) (by decide) (by decide) rfl (by decide),covGo_end (by decide)]
  rfl
theorem kn_c2 : coverL [⟨0,4⟩,⟨4,4⟩] ⟨6,4⟩ = none := by
  unfold coverL
  rw [if_pos (by decide),covGo_step (i := 1) (x := ⟨4,4⟩) (by decide) (by decide) rfl (by decide),covGo_none (by decide) (by decide)]
  rfl
theorem kn_1 : mapOk LK 3 2 4 = true := by unfold mapOk coverOk; rw [kn_of,kn_c1]; rfl
theorem kn_2 : mapL LK 3 2 4 = [⟨2,102,2⟩,⟨4,50,2⟩] := by unfold mapL covW coverV; rw [kn_of,kn_c1]; decide
theorem kn_3 : mapOk LK 3 6 4 = false := by unfold mapOk coverOk; rw [kn_of,kn_c2]; rfl
theorem kn_4 : mapOk LK 2 0 1 = false := by unfold mapOk coverOk; rw [show (ofL LK 2).map vSp = [] by decide,known_bad]; rfl
section
variable {l : List TWindow} {s : Int}
end
section
variable {Q : Int → Prop} {a n k z : Nat}
end
end Go.Proofs.Ytljkbpgcglomfaa
set_option linter.unusedVariables false
set_option linter.unusedSimpArgs false
set_option maxRecDepth 10000
set_option maxHeartbeats 1000000
namespace Go.Proofs.Ytljkbpgcglomfaa
open Go Go.Proofs.Ytljkbpgcglomfaa.Pv
theorem w_burgagelaw10_tape (k : Nat) (hk1 : k ≤ 1000) :
    T Try.prog 13 [pN k] 0 [] (Ret (pS 1 false encI (tapeL 47 k)) 0 []) := by
 refine t_fun tabOk (n := 25) (rs := [.tmp 2]) Try.func13 rfl rfl rfl rfl (Nat.le_of_ble_eq_true rfl) ?_
 intro c hnt hk
 refine w_seq ?_
 refine w_R ?_
 refine qa hnt rfl rfl ?_
 refine r_end ?_
 refine q_then ?_
 refine w_seq ?_
 refine w_R ?_
 refine qa hnt rfl rfl ?_
 refine r_end ?_
 refine q_then ?_
 refine w_seq ?_
 refine w_seq ?_
 refine w_R ?_
 refine qa hnt rfl rfl ?_
 refine r_end ?_
 refine q_then ?_
 refine w_block ?_
 refine w_adopt (s := 3) (sz := 1) rfl ?_
 refine loop2 (fun (os : List Int) (i : Nat) => i ≤ 900 ∧ os = (List.range i).map (tapeF 47 k)) (fun (os : List Int) (i : Nat) => [(0,pN k),(3,PV.ref 0 0 none),(4,pN i)]) 1 (fun (os : List Int) (i : Nat) => [(0,oB true 1 encI os)]) (fun (os : List Int) (i : Nat) => 900 - i) (([] : List Int)) (0) ?_ ⟨[(0,0)],by rw [hk]; decide,⟨⟨_,rfl,rfl,rfl⟩,⟨_,rfl,rfl,rfl⟩,⟨_,rfl,rfl,rfl⟩,trivial⟩,⟨⟨_,_,rfl,rfl,rfl,rfl⟩,trivial⟩,by rw [hk]; decide⟩ ?_
 · exact ⟨by omega,rfl⟩
 ·
  intro os i hI
  obtain ⟨hi,hos⟩ := hI
  have hol : os.length = i := by rw [hos]; simp
  have hii : i * i ≤ 900 * 900 := Nat.mul_le_mul hi hi
  have hik : i * k ≤ 900 * 1000 := Nat.mul_le_mul hi hk1
  refine w_seq ?_
  refine w_seq ?_
  refine w_R ?_
  refine qm hnt rfl rfl ?_
  refine qo hnt rfl (s_lss rfl rfl ?_)
  refine r_end ?_
  refine q_then ?_
  refine w_if rfl (fun c1 => ?_) (fun c1 => ?_)
  ·
   have c1_ := c1
   try simp only [sB] at c1
   refine w_skip ?_
   refine q_then ?_
   refine w_seq ?_
   refine w_block ?_
   refine w_R ?_
   refine qm hnt rfl rfl ?_
   refine qm hnt rfl rfl ?_
   refine qm hnt rfl rfl ?_
   refine qo hnt rfl (s_mulN (a := i) (b := i) rfl rfl (by omega) (by omega) (by omega) ?_)
   refine qo hnt rfl (s_mulN (a := i * i) (b := 7) rfl rfl (by omega) (by omega) (by omega) ?_)
   refine qm hnt rfl rfl ?_
   refine qo hnt rfl (s_mulN (a := k) (b := 47) rfl rfl (by omega) (by omega) (by omega) ?_)
   refine qo hnt rfl (s_addN (a := (i * i) * 7) (b := k * 47) rfl rfl (by omega) (by omega) (by omega) ?_)
   refine qm hnt rfl rfl ?_
   refine qm hnt rfl rfl ?_
   refine qo hnt rfl (s_mulN (a := i) (b := k) rfl rfl (by omega) (by omega) (by omega) ?_)
   refine qo hnt rfl (s_addN (a := (i * i) * 7 + (k * 47)) (b := i * k) rfl rfl (by omega) (by omega) (by omega) ?_)
   refine qo hnt rfl (s_remN (a := (i * i) * 7 + (k * 47) + (i * k)) (b := 211) rfl rfl (by omega) (by omega) (by omega) ?_)
   refine qo hnt rfl (s_mkM (f := encI) [((((i * i) * 7 + (k * 47) + (i * k)) % 211 : Nat) : Int)] tab_24 rfl tab_3 ⟨rfl,by decide⟩ (by decide) rfl rfl rfl rfl ?_)
   refine qo hnt rfl (s_appR0 (f := encI) (l := os) (xs := [((((i * i) * 7 + (k * 47) + (i * k)) % 211 : Nat) : Int)]) tab_24 rfl tab_3 ⟨rfl,by decide,by decide⟩ (srcM tab_24 rfl (hM_ref0 (f := encI) rfl rfl)) rfl rfl (by (simp; omega)) ?_)
   refine qa hnt rfl rfl ?_
   refine r_set [(0,pN k),(3,PV.ref 2 0 none),(4,pN i)] [(2,oB true 1 encI (os ++ [((((i * i) * 7 + (k * 47) + (i * k)) % 211 : Nat) : Int)])),(1,oB true 1 encI [((((i * i) * 7 + (k * 47) + (i * k)) % 211 : Nat) : Int)])] 3 ⟨rfl,rfl,rfl,trivial⟩ rfl rfl ?_
   refine r_end ?_
   refine q_block ?_
   refine q_then ?_
   refine w_R ?_
   refine qm hnt rfl rfl ?_
   refine qo hnt rfl (s_addN (a := i) (b := 1) rfl rfl (by omega) (by omega) (by omega) ?_)
   refine qa hnt rfl rfl ?_
   refine r_end ?_
   refine q_then ?_
   refine ⟨(os ++ [((((i * i) * 7 + (k * 47) + (i * k)) % 211 : Nat) : Int)]),(i + 1), ?_, ?_,⟨[(0,2)],by rw [hk]; decide,⟨⟨_,rfl,rfl,rfl⟩,⟨_,rfl,rfl,rfl⟩,⟨_,rfl,rfl,rfl⟩,trivial⟩,⟨⟨_,_,rfl,rfl,rfl,rfl⟩,trivial⟩,by rw [hk]; decide⟩⟩
   ·
    exact ⟨by omega,by rw [hos]; exact tape_snoc 47 k i⟩
   · omega
  have c1_ := c1
  try simp only [sB] at c1
  have hi9 : i = 900 := by omega
  refine w_exit ?_
  refine q_then_exit ?_
  refine q_then_exit ?_
  refine q_block_exit ?_
  refine q_then ?_
  refine w_seq ?_
  refine w_R ?_
  refine qm hnt rfl rfl ?_
  refine qa hnt rfl rfl ?_
  refine r_end ?_
  refine q_then ?_
  refine w_frzM (s := 2) (f := encI) rfl rfl view_0 ?_
  refine w_le (s := 2) (y := pS 1 false encI (tapeL 47 k)) rfl (le_of_eq (congrArg (fun z => pS 1 false encI z) (show os = (tapeL 47 k) by unfold tapeL; rw [hos,hi9]))) ?_
  refine w_ret ?_
  exact fin_plain (ret_tmp rfl ret_nil) rfl rfl ⟨rfl,rfl,rfl⟩
theorem w_burgagelaw10_windows (t : List Int) (cl_t : Bool) (i : Nat) (ht : t.length ≤ 70000000000000) (hi : i ≤ 1000) :
    T Try.prog 12 [pS 1 cl_t encI t,pN i] 0 [] (fun ra rb rc => ∃ q : List TWindow,(WinsOk q) ∧ (Ret (pS 4 false eWindow q) 0 []) ra rb rc) := by
 refine t_fun tabOk (n := 20) (rs := [.tmp 4]) Try.func12 rfl rfl rfl rfl (Nat.le_of_ble_eq_true rfl) ?_
 intro c hnt hk
 refine w_seq ?_
 refine w_R ?_
 refine qa hnt rfl rfl ?_
 refine r_end ?_
 refine q_then ?_
 refine w_seq ?_
 refine w_R ?_
 refine qm hnt rfl rfl ?_
 refine qo hnt rfl (s_build tab_49 rfl rfl (b_cons rfl tab_24 rfl rfl rfl (Nat.le_of_ble_eq_true rfl) (b_nil ?_)))
 refine qo hnt rfl (s_box rfl rfl ?_)
 refine qo hnt rfl (s_callX2 (p := fun (X1 : TTable) (b1 : Nat) => TabG X1) (r2 := fun X1 b1 => PV.f (eTable X1)) (nx1 := 1) (H2 := [(0,.obj [pS 1 cl_t encI t,pI 0])]) (H3 := fun X1 b1 => [(0,.obj [pS 1 false encI t,pN b1])]) [0] [.obj [pS 1 cl_t encI t,pI 0]] rfl rfl rfl (handed_of (by decide) ⟨rfl,trivial⟩) rfl rfl rfl rfl rfl rfl (w_burgagekeep_Tape_Table t cl_t 0 (by omega)) (fun X1 b1 => rfl) (fun X1 b1 => dist_of rfl) (fun X1 b1 => rfl) (fun X1 b1 => rfl) rfl (fun X1 b1 => rfl) (fun X1 b1 hX1 => ?_))
 refine qo hnt rfl (s_alloc tab_73 ?_)
 refine qo hnt rfl (s_store_ptr tab_73 rfl rfl rfl rfl rfl (Nat.le_of_ble_eq_true rfl) ?_)
 refine r_set [(1,pN i),(5,PV.ptr 1 0)] [(1,.obj (cTable X1)),(0,.obj [pS 1 false encI t,pN b1])] 2 ⟨rfl,rfl,trivial⟩ rfl rfl ?_
 refine r_end ?_
 refine q_then ?_
 refine w_seq ?_
 have hxl := hX1.len
 refine W_drawn tabOk mixed hnt [[],[0],[],[],[3],[3,4],[2,3,4,5],[0,1,2,3,4,5,6],[0,1,2,3,4,5,6,7],[0,1,2,3,4,5,6,7,8],[0,1,2,3,4,5,6,7,8,9]] (by kernel_rfl) ?_
 refine d_op ?_
 refine x_run0 [(5,PV.ptr 1 0)] [] rfl rfl rfl rfl (s_fa_ptr tab_73 rfl rfl tab_71 (by decide) rfl ⟨rfl,rfl,rfl⟩) ?_
 refine d_op ?_
 refine xL [(10,PV.ptr 1 1)] [0] [(1,.obj (cTable X1))] rfl rfl rfl rfl rfl (s_load_ptr1 tab_71 rfl rfl rfl rfl rfl ⟨rfl,rfl,rfl⟩) ⟨rfl,trivial⟩ rfl ?_
 refine d_op ?_
 refine x_run0 [(1,pN i)] [] rfl rfl rfl rfl (s_move rfl ⟨rfl,rfl,rfl⟩) ?_
 refine d_op ?_
 refine x_run0 [(5,PV.ptr 1 0)] [] rfl rfl rfl rfl (s_fa_ptr tab_73 rfl rfl tab_71 (by decide) rfl ⟨rfl,rfl,rfl⟩) ?_
 refine d_op ?_
 refine xL [(13,PV.ptr 1 1)] [3] [(1,.obj (cTable X1))] rfl rfl rfl rfl rfl (s_load_ptr1 tab_71 rfl rfl rfl rfl rfl ⟨rfl,rfl,rfl⟩) ⟨rfl,trivial⟩ rfl ?_
 refine d_op ?_
 refine x_run0 [(14,pS 5 false eTenant X1.tenants)] [3,4] rfl rfl rfl rfl (s_lenM (l := X1.tenants) tab_71 rfl (hM_sl (f := eTenant) rfl) ⟨rfl,rfl,rfl⟩) ?_
 refine d_op ?_
 refine x_run0 [(12,pN i),(15,pN X1.tenants.length)] [2,3,4,5] rfl rfl rfl rfl (s_remN (a := i) (b := X1.tenants.length) rfl rfl (by omega) (by omega) (by omega) ⟨rfl,rfl,rfl⟩) ?_
 refine d_op ?_
 obtain ⟨e1,he1⟩ := get_of_lt X1.tenants (i := i % X1.tenants.length) (by have := Nat.mod_lt i (show 0 < X1.tenants.length by omega); omega)
 refine x_run0 [(11,pS 5 false eTenant X1.tenants),(16,pN (i % X1.tenants.length))] [0,1,2,3,4,5,6] rfl rfl rfl rfl (s_iaM (q := i % X1.tenants.length) (b := e1) (f := eTenant) tab_71 rfl tab_78 rfl rfl (by omega) rfl he1 ⟨rfl,rfl,rfl⟩) ?_
 refine d_op ?_
 refine x_run0 [(17,PV.f (.ro (eTenant e1)))] [0,1,2,3,4,5,6,7] rfl rfl rfl rfl (s_fa_ro tab_78 rfl rfl tab_22 (by decide) rfl (Nat.le_of_ble_eq_true rfl) (by intro _; rfl) ⟨rfl,rfl,rfl⟩) ?_
 refine d_op ?_
 refine x_run0 [(18,PV.f (.ro (FV.sl 4 false (List.map eWindow e1.windows))))] [0,1,2,3,4,5,6,7,8] rfl rfl rfl rfl (s_load_ro1 tab_22 rfl rfl rfl rfl ⟨rfl,rfl,rfl⟩) ?_
 refine d_op ?_
 refine x_run0 [(19,pS 4 false eWindow e1.windows)] [0,1,2,3,4,5,6,7,8,9] rfl rfl rfl rfl (s_assign rfl ⟨rfl,rfl,rfl⟩) ?_
 refine d_end ⟨by kernel_rfl, ?_⟩
 refine q_then ?_
 refine w_ret ?_
 have hex : WinsOk e1.windows := by
   exact hX1.wins _ (List.mem_of_getElem? he1)
 exact fin_plain (ret_tmp rfl ret_nil) rfl rfl ⟨(e1.windows),hex,rfl,rfl,rfl⟩
theorem w_burgagelaw10_same (l : List TWindow) (cl_l : Bool) (m : List TWindow) (cl_m : Bool) (space : Int) (at0 : Int) (n : Int) (hl : l.length ≤ 1000) (hm : m.length ≤ 1000) (hn : -9223372036854775808 ≤ n ∧ n ≤ 9223372036854775807) :
    T Try.prog 14 [pS 4 cl_l eWindow l,pS 4 cl_m eWindow m,pI space,pI at0,pI n] 0 [] (Ret (pB true) 0 []) := by
 refine t_fun tabOk (n := 141) (rs := [.tmp 10]) Try.func14 rfl rfl rfl rfl (Nat.le_of_ble_eq_true rfl) ?_
 intro c hnt hk
 refine w_seq ?_
 refine w_R ?_
 refine qa hnt rfl rfl ?_
 refine r_end ?_
 refine q_then ?_
 refine w_seq ?_
 refine w_R ?_
 refine qm hnt rfl rfl ?_
 refine qm hnt rfl rfl ?_
 refine qm hnt rfl rfl ?_
 refine qm hnt rfl rfl ?_
 refine qo hnt rfl (s_callF rfl rfl rfl (w_window_Map l cl_l space at0 n (by omega)) rfl ?_)
 refine qm hnt rfl rfl ?_
 refine qo hnt rfl (s_extract rfl rfl ?_)
 refine qo hnt rfl (s_extract rfl rfl ?_)
 refine qa hnt rfl rfl ?_
 refine qa hnt rfl rfl ?_
 refine r_end ?_
 refine q_then ?_
 refine w_seq ?_
 refine w_R ?_
 refine qm hnt rfl rfl ?_
 refine qm hnt rfl rfl ?_
 refine qm hnt rfl rfl ?_
 refine qm hnt rfl rfl ?_
 refine qo hnt rfl (s_callF rfl rfl rfl (w_burgageref7_Map l cl_l space at0 n (by omega)) rfl ?_)
 refine qm hnt rfl rfl ?_
 refine qo hnt rfl (s_extract rfl rfl ?_)
 refine qo hnt rfl (s_extract rfl rfl ?_)
 refine qa hnt rfl rfl ?_
 refine qa hnt rfl rfl ?_
 refine r_end ?_
 refine q_then ?_
 refine w_seq ?_
 refine w_seq ?_
 refine w_R ?_
 refine qm hnt rfl rfl ?_
 refine qm hnt rfl rfl ?_
 refine qo hnt rfl (s_nebool tab_4 rfl rfl rfl ?_)
 refine qm hnt rfl rfl ?_
 refine r_if tabOk hnt rfl rfl rfl (fun g1 => ?_) (fun g1 => ?_)
 ·
  have g1' := g1
  try simp only [sB] at g1'
  refine qm hnt rfl rfl ?_
  refine ry hnt rfl rfl rfl g1 ?_
  refine qo hnt rfl (s_lenM (l := mapL l space at0 n) tab_32 rfl (hM_sl (f := ePiece) rfl) ?_)
  refine ry hnt rfl rfl rfl g1 ?_
  refine qm hnt rfl rfl ?_
  refine ry hnt rfl rfl rfl g1 ?_
  refine qo hnt rfl (s_lenM (l := mapL l space at0 n) tab_79 rfl (hM_sl (f := ePiece) rfl) ?_)
  refine ry hnt rfl rfl rfl g1 ?_
  refine qo hnt rfl (s_neq rfl rfl ?_)
  refine qo hnt rfl (s_pick_f rfl g1 rfl ?_)
  refine r_set [(0,pS 4 cl_l eWindow l),(1,pS 4 cl_m eWindow m),(2,pI space),(4,pI n),(11,pS 3 true ePiece (mapL l space at0 n)),(13,pS 3 false ePiece (mapL l space at0 n)),(47,pB (!decide ((((mapL l space at0 n).length : Nat) : Int) = (((mapL l space at0 n).length : Nat) : Int))))] [] 0 ⟨rfl,rfl,rfl,rfl,rfl,rfl,rfl,trivial⟩ rfl rfl ?_
  refine r_end ?_
  refine q_then ?_
  refine w_if rfl (fun c1 => ?_) (fun c1 => ?_)
  ·
   have c1_ := c1
   exact absurd c1 (by simp)
  have c1_ := c1
  try simp only [sB] at c1
  refine w_skip ?_
  refine q_then ?_
  refine w_seq ?_
  refine w_seq ?_
  have hml : (mapL l space at0 n).length ≤ 2147483648 := by unfold mapL; rw [List.length_map]; exact covW_len _ _ _ _
  refine w_R ?_
  refine qm hnt rfl rfl ?_
  refine qo hnt rfl (s_lenM (l := mapL l space at0 n) tab_32 rfl (hM_sl (f := ePiece) rfl) ?_)
  refine qm hnt rfl rfl ?_
  refine r_end ?_
  refine q_then ?_
  refine w_block ?_
  refine loop1 (fun (i : Nat) => i ≤ (mapL l space at0 n).length) (fun (i : Nat) => [(0,pS 4 cl_l eWindow l),(1,pS 4 cl_m eWindow m),(2,pI space),(4,pI n),(11,pS 3 true ePiece (mapL l space at0 n)),(13,pS 3 false ePiece (mapL l space at0 n)),(49,pN ((mapL l space at0 n).length)),(50,pN i)]) 0 (fun (i : Nat) => []) (fun (i : Nat) => (mapL l space at0 n).length - i) (0) ?_ ⟨[],rfl,⟨⟨_,rfl,rfl,rfl⟩,⟨_,rfl,rfl,rfl⟩,⟨_,rfl,rfl,rfl⟩,⟨_,rfl,rfl,rfl⟩,⟨_,rfl,rfl,rfl⟩,⟨_,rfl,rfl,rfl⟩,⟨_,rfl,rfl,rfl⟩,⟨_,rfl,rfl,rfl⟩,trivial⟩,trivial,by rw [hk]; decide⟩ ?_
  · omega
  ·
   intro i hI
   refine w_seq ?_
   refine w_R ?_
   refine qo hnt rfl (s_lss rfl rfl ?_)
   refine r_end ?_
   refine q_then ?_
   refine w_seq ?_
   refine w_if rfl (fun c2 => ?_) (fun c2 => ?_)
   ·
    have c2_ := c2
    try simp only [sB] at c2
    refine w_skip ?_
    refine q_then ?_
    refine w_seq ?_
    refine w_block ?_
    refine w_seq ?_
    refine w_R ?_
    refine qm hnt rfl rfl ?_
    refine qa hnt rfl rfl ?_
    refine r_end ?_
    refine q_then ?_
    refine w_seq ?_
    refine W_drawn tabOk mixed hnt [[],[],[0,1],[0,1,2],[0,1,2,3],[],[],[5,6],[5,6,7],[5,6,7,8],[0,1,2,3,4,5,6,7,8,9],[0,1,2,3,4,5,6,7,8,9,10],[0,1,2,3,4,5,6,7,8,9,10,11],[0,1,2,3,4,5,6,7,8,9,10,11],[0,1,2,3,4,5,6,7,8,9,10,11,12,13],[0,1,2,3,4,5,6,7,8,9,10,11,12,13,14],[0,1,2,3,4,5,6,7,8,9,10,11,12,13,14,15],[0,1,2,3,4,5,6,7,8,9,10,11],[0,1,2,3,4,5,6,7,8,9,10,11],[0,1,2,3,4,5,6,7,8,9,10,11,17,18],[0,1,2,3,4,5,6,7,8,9,10,11,17,18,19],[0,1,2,3,4,5,6,7,8,9,10,11,17,18,19,20],[0,1,2,3,4,5,6,7,8,9,10,11,12,13,14,15,16,17,18,19,20,21],[0,1,2,3,4,5,6,7,8,9,10,11,12,13,14,15,16,17,18,19,20,21,22],[0,1,2,3,4,5,6,7,8,9,10,11,12,13,14,15,16,17,18,19,20,21,22,23],[0,1,2,3,4,5,6,7,8,9,10,11,12,13,14,15,16,17,18,19,20,21,22,23,24],[0,1,2,3,4,5,6,7,8,9,10,11,12,13,14,15,16,17,18,19,20,21,22,23,24],[0,1,2,3,4,5,6,7,8,9,10,11,12,13,14,15,16,17,18,19,20,21,22,23,24,25,26],[0,1,2,3,4,5,6,7,8,9,10,11,12,13,14,15,16,17,18,19,20,21,22,23,24,25,26,27],[0,1,2,3,4,5,6,7,8,9,10,11,12,13,14,15,16,17,18,19,20,21,22,23,24,25,26,27,28],[0,1,2,3,4,5,6,7,8,9,10,11,12,13,14,15,16,17,18,19,20,21,22,23,24],[0,1,2,3,4,5,6,7,8,9,10,11,12,13,14,15,16,17,18,19,20,21,22,23,24],[0,1,2,3,4,5,6,7,8,9,10,11,12,13,14,15,16,17,18,19,20,21,22,23,24,30,31],[0,1,2,3,4,5,6,7,8,9,10,11,12,13,14,15,16,17,18,19,20,21,22,23,24,30,31,32],[0,1,2,3,4,5,6,7,8,9,10,11,12,13,14,15,16,17,18,19,20,21,22,23,24,30,31,32,33],[0,1,2,3,4,5,6,7,8,9,10,11,12,13,14,15,16,17,18,19,20,21,22,23,24,25,26,27,28,29,30,31,32,33,34],[0,1,2,3,4,5,6,7,8,9,10,11,12,13,14,15,16,17,18,19,20,21,22,23,24,25,26,27,28,29,30,31,32,33,34,35]] (by kernel_rfl) ?_
    refine d_op ?_
    refine x_run0 [(11,pS 3 true ePiece (mapL l space at0 n))] [] rfl rfl rfl rfl (s_move rfl ⟨rfl,rfl,rfl⟩) ?_
    refine d_op ?_
    refine x_run0 [(15,pN i)] [] rfl rfl rfl rfl (s_move rfl ⟨rfl,rfl,rfl⟩) ?_
    refine d_op ?_
    obtain ⟨e1,he1⟩ := get_of_lt (mapL l space at0 n) (i := i) (by omega)
    refine x_run0 [(53,pS 3 true ePiece (mapL l space at0 n)),(54,pN i)] [0,1] rfl rfl rfl rfl (s_iaM (q := i) (b := e1) (f := ePiece) tab_32 rfl tab_36 rfl rfl (by omega) rfl he1 ⟨rfl,rfl,rfl⟩) ?_
    refine d_op ?_
    refine x_run0 [(55,PV.f (.ro (ePiece e1)))] [0,1,2] rfl rfl rfl rfl (s_fa_ro tab_36 rfl rfl tab_3 (by decide) rfl (Nat.le_of_ble_eq_true rfl) (by intro _; rfl) ⟨rfl,rfl,rfl⟩) ?_
    refine d_op ?_
    refine x_run0 [(56,PV.f (.ro (encI e1.at_)))] [0,1,2,3] rfl rfl rfl rfl (s_load_ro1 tab_3 rfl rfl rfl rfl ⟨rfl,rfl,rfl⟩) ?_
    refine d_op ?_
    refine x_run0 [(13,pS 3 false ePiece (mapL l space at0 n))] [] rfl rfl rfl rfl (s_move rfl ⟨rfl,rfl,rfl⟩) ?_
    refine d_op ?_
    refine x_run0 [(15,pN i)] [] rfl rfl rfl rfl (s_move rfl ⟨rfl,rfl,rfl⟩) ?_
    refine d_op ?_
    refine x_run0 [(58,pS 3 false ePiece (mapL l space at0 n)),(59,pN i)] [5,6] rfl rfl rfl rfl (s_iaM (q := i) (b := e1) (f := ePiece) tab_79 rfl tab_82 rfl rfl (by omega) rfl he1 ⟨rfl,rfl,rfl⟩) ?_
    refine d_op ?_
    refine x_run0 [(60,PV.f (.ro (ePiece e1)))] [5,6,7] rfl rfl rfl rfl (s_fa_ro tab_82 rfl rfl tab_3 (by decide) rfl (Nat.le_of_ble_eq_true rfl) (by intro _; rfl) ⟨rfl,rfl,rfl⟩) ?_
    refine d_op ?_
    refine x_run0 [(61,PV.f (.ro (encI e1.at_)))] [5,6,7,8] rfl rfl rfl rfl (s_load_ro1 tab_3 rfl rfl rfl rfl ⟨rfl,rfl,rfl⟩) ?_
    refine d_op ?_
    refine x_run0 [(57,pI e1.at_),(62,pI e1.at_)] [0,1,2,3,4,5,6,7,8,9] rfl rfl rfl rfl (s_neq rfl rfl ⟨rfl,rfl,rfl⟩) ?_
    refine d_op ?_
    refine x_run0 [(63,pB (!decide (e1.at_ = e1.at_)))] [0,1,2,3,4,5,6,7,8,9,10] rfl rfl rfl rfl (s_move rfl ⟨rfl,rfl,rfl⟩) ?_
    refine x_if [(64,pB (!decide (e1.at_ = e1.at_))),(11,pS 3 true ePiece (mapL l space at0 n))] [0,1,2,3,4,5,6,7,8,9,10,11] rfl rfl rfl rfl (fun g2 => ?_) (fun g2 => ?_)
    ·
     have g2' := g2
     try simp only [sB] at g2'
     refine x_run0 [(64,pB (!decide (e1.at_ = e1.at_))),(11,pS 3 true ePiece (mapL l space at0 n))] [0,1,2,3,4,5,6,7,8,9,10,11] rfl rfl rfl rfl (s_move rfl ⟨rfl,rfl,rfl⟩) ?_
     refine xy [(64,pB (!decide (e1.at_ = e1.at_))),(15,pN i)] [0,1,2,3,4,5,6,7,8,9,10,11] rfl rfl rfl rfl g2 ?_
     refine x_run0 [(64,pB (!decide (e1.at_ = e1.at_))),(15,pN i)] [0,1,2,3,4,5,6,7,8,9,10,11] rfl rfl rfl rfl (s_move rfl ⟨rfl,rfl,rfl⟩) ?_
     refine xy [(64,pB (!decide (e1.at_ = e1.at_))),(65,pS 3 true ePiece (mapL l space at0 n)),(66,pN i)] [0,1,2,3,4,5,6,7,8,9,10,11,12,13] rfl rfl rfl rfl g2 ?_
     refine x_run0 [(64,pB (!decide (e1.at_ = e1.at_))),(65,pS 3 true ePiece (mapL l space at0 n)),(66,pN i)] [0,1,2,3,4,5,6,7,8,9,10,11,12,13] rfl rfl rfl rfl (s_iaM (q := i) (b := e1) (f := ePiece) tab_32 rfl tab_36 rfl rfl (by omega) rfl he1 ⟨rfl,rfl,rfl⟩) ?_
     refine xy [(64,pB (!decide (e1.at_ = e1.at_))),(67,PV.f (.ro (ePiece e1)))] [0,1,2,3,4,5,6,7,8,9,10,11,12,13,14] rfl rfl rfl rfl g2 ?_
     refine x_run0 [(64,pB (!decide (e1.at_ = e1.at_))),(67,PV.f (.ro (ePiece e1)))] [0,1,2,3,4,5,6,7,8,9,10,11,12,13,14] rfl rfl rfl rfl (s_fa_ro tab_36 rfl rfl tab_3 (by decide) rfl (Nat.le_of_ble_eq_true rfl) (by intro _; rfl) ⟨rfl,rfl,rfl⟩) ?_
     refine xy [(64,pB (!decide (e1.at_ = e1.at_))),(68,PV.f (.ro (encI e1.physical)))] [0,1,2,3,4,5,6,7,8,9,10,11,12,13,14,15] rfl rfl rfl rfl g2 ?_
     refine x_run0 [(64,pB (!decide (e1.at_ = e1.at_))),(68,PV.f (.ro (encI e1.physical)))] [0,1,2,3,4,5,6,7,8,9,10,11,12,13,14,15] rfl rfl rfl rfl (s_load_ro1 tab_3 rfl rfl rfl rfl ⟨rfl,rfl,rfl⟩) ?_
     refine xy [(64,pB (!decide (e1.at_ = e1.at_))),(13,pS 3 false ePiece (mapL l space at0 n))] [0,1,2,3,4,5,6,7,8,9,10,11] rfl rfl rfl rfl g2 ?_
     refine x_run0 [(64,pB (!decide (e1.at_ = e1.at_))),(13,pS 3 false ePiece (mapL l space at0 n))] [0,1,2,3,4,5,6,7,8,9,10,11] rfl rfl rfl rfl (s_move rfl ⟨rfl,rfl,rfl⟩) ?_
     refine xy [(64,pB (!decide (e1.at_ = e1.at_))),(15,pN i)] [0,1,2,3,4,5,6,7,8,9,10,11] rfl rfl rfl rfl g2 ?_
     refine x_run0 [(64,pB (!decide (e1.at_ = e1.at_))),(15,pN i)] [0,1,2,3,4,5,6,7,8,9,10,11] rfl rfl rfl rfl (s_move rfl ⟨rfl,rfl,rfl⟩) ?_
     refine xy [(64,pB (!decide (e1.at_ = e1.at_))),(70,pS 3 false ePiece (mapL l space at0 n)),(71,pN i)] [0,1,2,3,4,5,6,7,8,9,10,11,17,18] rfl rfl rfl rfl g2 ?_
     refine x_run0 [(64,pB (!decide (e1.at_ = e1.at_))),(70,pS 3 false ePiece (mapL l space at0 n)),(71,pN i)] [0,1,2,3,4,5,6,7,8,9,10,11,17,18] rfl rfl rfl rfl (s_iaM (q := i) (b := e1) (f := ePiece) tab_79 rfl tab_82 rfl rfl (by omega) rfl he1 ⟨rfl,rfl,rfl⟩) ?_
     refine xy [(64,pB (!decide (e1.at_ = e1.at_))),(72,PV.f (.ro (ePiece e1)))] [0,1,2,3,4,5,6,7,8,9,10,11,17,18,19] rfl rfl rfl rfl g2 ?_
     refine x_run0 [(64,pB (!decide (e1.at_ = e1.at_))),(72,PV.f (.ro (ePiece e1)))] [0,1,2,3,4,5,6,7,8,9,10,11,17,18,19] rfl rfl rfl rfl (s_fa_ro tab_82 rfl rfl tab_3 (by decide) rfl (Nat.le_of_ble_eq_true rfl) (by intro _; rfl) ⟨rfl,rfl,rfl⟩) ?_
     refine xy [(64,pB (!decide (e1.at_ = e1.at_))),(73,PV.f (.ro (encI e1.physical)))] [0,1,2,3,4,5,6,7,8,9,10,11,17,18,19,20] rfl rfl rfl rfl g2 ?_
     refine x_run0 [(64,pB (!decide (e1.at_ = e1.at_))),(73,PV.f (.ro (encI e1.physical)))] [0,1,2,3,4,5,6,7,8,9,10,11,17,18,19,20] rfl rfl rfl rfl (s_load_ro1 tab_3 rfl rfl rfl rfl ⟨rfl,rfl,rfl⟩) ?_
     refine xy [(64,pB (!decide (e1.at_ = e1.at_))),(69,pI e1.physical),(74,pI e1.physical)] [0,1,2,3,4,5,6,7,8,9,10,11,12,13,14,15,16,17,18,19,20,21] rfl rfl rfl rfl g2 ?_
     refine x_run0 [(64,pB (!decide (e1.at_ = e1.at_))),(69,pI e1.physical),(74,pI e1.physical)] [0,1,2,3,4,5,6,7,8,9,10,11,12,13,14,15,16,17,18,19,20,21] rfl rfl rfl rfl (s_neq rfl rfl ⟨rfl,rfl,rfl⟩) ?_
     refine d_op ?_
     refine x_run0 [(64,pB (!decide (e1.at_ = e1.at_))),(75,pB (!decide (e1.physical = e1.physical)))] [0,1,2,3,4,5,6,7,8,9,10,11,12,13,14,15,16,17,18,19,20,21,22] rfl rfl rfl rfl (s_pick_f rfl g2 rfl ⟨rfl,rfl,rfl⟩) ?_
     refine d_op ?_
     refine x_run0 [(76,pB (!decide (e1.physical = e1.physical)))] [0,1,2,3,4,5,6,7,8,9,10,11,12,13,14,15,16,17,18,19,20,21,22,23] rfl rfl rfl rfl (s_move rfl ⟨rfl,rfl,rfl⟩) ?_
     refine x_if [(77,pB (!decide (e1.physical = e1.physical))),(11,pS 3 true ePiece (mapL l space at0 n))] [0,1,2,3,4,5,6,7,8,9,10,11,12,13,14,15,16,17,18,19,20,21,22,23,24] rfl rfl rfl rfl (fun g3 => ?_) (fun g3 => ?_)
     ·
      have g3' := g3
      try simp only [sB] at g3'
      refine x_run0 [(77,pB (!decide (e1.physical = e1.physical))),(11,pS 3 true ePiece (mapL l space at0 n))] [0,1,2,3,4,5,6,7,8,9,10,11,12,13,14,15,16,17,18,19,20,21,22,23,24] rfl rfl rfl rfl (s_move rfl ⟨rfl,rfl,rfl⟩) ?_
      refine xy [(77,pB (!decide (e1.physical = e1.physical))),(15,pN i)] [0,1,2,3,4,5,6,7,8,9,10,11,12,13,14,15,16,17,18,19,20,21,22,23,24] rfl rfl rfl rfl g3 ?_
      refine x_run0 [(77,pB (!decide (e1.physical = e1.physical))),(15,pN i)] [0,1,2,3,4,5,6,7,8,9,10,11,12,13,14,15,16,17,18,19,20,21,22,23,24] rfl rfl rfl rfl (s_move rfl ⟨rfl,rfl,rfl⟩) ?_
      refine xy [(77,pB (!decide (e1.physical = e1.physical))),(78,pS 3 true ePiece (mapL l space at0 n)),(79,pN i)] [0,1,2,3,4,5,6,7,8,9,10,11,12,13,14,15,16,17,18,19,20,21,22,23,24,25,26] rfl rfl rfl rfl g3 ?_
      refine x_run0 [(77,pB (!decide (e1.physical = e1.physical))),(78,pS 3 true ePiece (mapL l space at0 n)),(79,pN i)] [0,1,2,3,4,5,6,7,8,9,10,11,12,13,14,15,16,17,18,19,20,21,22,23,24,25,26] rfl rfl rfl rfl (s_iaM (q := i) (b := e1) (f := ePiece) tab_32 rfl tab_36 rfl rfl (by omega) rfl he1 ⟨rfl,rfl,rfl⟩) ?_
      refine xy [(77,pB (!decide (e1.physical = e1.physical))),(80,PV.f (.ro (ePiece e1)))] [0,1,2,3,4,5,6,7,8,9,10,11,12,13,14,15,16,17,18,19,20,21,22,23,24,25,26,27] rfl rfl rfl rfl g3 ?_
      refine x_run0 [(77,pB (!decide (e1.physical = e1.physical))),(80,PV.f (.ro (ePiece e1)))] [0,1,2,3,4,5,6,7,8,9,10,11,12,13,14,15,16,17,18,19,20,21,22,23,24,25,26,27] rfl rfl rfl rfl (s_fa_ro tab_36 rfl rfl tab_3 (by decide) rfl (Nat.le_of_ble_eq_true rfl) (by intro _; rfl) ⟨rfl,rfl,rfl⟩) ?_
      refine xy [(77,pB (!decide (e1.physical = e1.physical))),(81,PV.f (.ro (encI e1.count)))] [0,1,2,3,4,5,6,7,8,9,10,11,12,13,14,15,16,17,18,19,20,21,22,23,24,25,26,27,28] rfl rfl rfl rfl g3 ?_
      refine x_run0 [(77,pB (!decide (e1.physical = e1.physical))),(81,PV.f (.ro (encI e1.count)))] [0,1,2,3,4,5,6,7,8,9,10,11,12,13,14,15,16,17,18,19,20,21,22,23,24,25,26,27,28] rfl rfl rfl rfl (s_load_ro1 tab_3 rfl rfl rfl rfl ⟨rfl,rfl,rfl⟩) ?_
      refine xy [(77,pB (!decide (e1.physical = e1.physical))),(13,pS 3 false ePiece (mapL l space at0 n))] [0,1,2,3,4,5,6,7,8,9,10,11,12,13,14,15,16,17,18,19,20,21,22,23,24] rfl rfl rfl rfl g3 ?_
      refine x_run0 [(77,pB (!decide (e1.physical = e1.physical))),(13,pS 3 false ePiece (mapL l space at0 n))] [0,1,2,3,4,5,6,7,8,9,10,11,12,13,14,15,16,17,18,19,20,21,22,23,24] rfl rfl rfl rfl (s_move rfl ⟨rfl,rfl,rfl⟩) ?_
      refine xy [(77,pB (!decide (e1.physical = e1.physical))),(15,pN i)] [0,1,2,3,4,5,6,7,8,9,10,11,12,13,14,15,16,17,18,19,20,21,22,23,24] rfl rfl rfl rfl g3 ?_
      refine x_run0 [(77,pB (!decide (e1.physical = e1.physical))),(15,pN i)] [0,1,2,3,4,5,6,7,8,9,10,11,12,13,14,15,16,17,18,19,20,21,22,23,24] rfl rfl rfl rfl (s_move rfl ⟨rfl,rfl,rfl⟩) ?_
      refine xy [(77,pB (!decide (e1.physical = e1.physical))),(83,pS 3 false ePiece (mapL l space at0 n)),(84,pN i)] [0,1,2,3,4,5,6,7,8,9,10,11,12,13,14,15,16,17,18,19,20,21,22,23,24,30,31] rfl rfl rfl rfl g3 ?_
      refine x_run0 [(77,pB (!decide (e1.physical = e1.physical))),(83,pS 3 false ePiece (mapL l space at0 n)),(84,pN i)] [0,1,2,3,4,5,6,7,8,9,10,11,12,13,14,15,16,17,18,19,20,21,22,23,24,30,31] rfl rfl rfl rfl (s_iaM (q := i) (b := e1) (f := ePiece) tab_79 rfl tab_82 rfl rfl (by omega) rfl he1 ⟨rfl,rfl,rfl⟩) ?_
      refine xy [(77,pB (!decide (e1.physical = e1.physical))),(85,PV.f (.ro (ePiece e1)))] [0,1,2,3,4,5,6,7,8,9,10,11,12,13,14,15,16,17,18,19,20,21,22,23,24,30,31,32] rfl rfl rfl rfl g3 ?_
      refine x_run0 [(77,pB (!decide (e1.physical = e1.physical))),(85,PV.f (.ro (ePiece e1)))] [0,1,2,3,4,5,6,7,8,9,10,11,12,13,14,15,16,17,18,19,20,21,22,23,24,30,31,32] rfl rfl rfl rfl (s_fa_ro tab_82 rfl rfl tab_3 (by decide) rfl (Nat.le_of_ble_eq_true rfl) (by intro _; rfl) ⟨rfl,rfl,rfl⟩) ?_
      refine xy [(77,pB (!decide (e1.physical = e1.physical))),(86,PV.f (.ro (encI e1.count)))] [0,1,2,3,4,5,6,7,8,9,10,11,12,13,14,15,16,17,18,19,20,21,22,23,24,30,31,32,33] rfl rfl rfl rfl g3 ?_
      refine x_run0 [(77,pB (!decide (e1.physical = e1.physical))),(86,PV.f (.ro (encI e1.count)))] [0,1,2,3,4,5,6,7,8,9,10,11,12,13,14,15,16,17,18,19,20,21,22,23,24,30,31,32,33] rfl rfl rfl rfl (s_load_ro1 tab_3 rfl rfl rfl rfl ⟨rfl,rfl,rfl⟩) ?_
      refine xy [(77,pB (!decide (e1.physical = e1.physical))),(82,pI e1.count),(87,pI e1.count)] [0,1,2,3,4,5,6,7,8,9,10,11,12,13,14,15,16,17,18,19,20,21,22,23,24,25,26,27,28,29,30,31,32,33,34] rfl rfl rfl rfl g3 ?_
      refine x_run0 [(77,pB (!decide (e1.physical = e1.physical))),(82,pI e1.count),(87,pI e1.count)] [0,1,2,3,4,5,6,7,8,9,10,11,12,13,14,15,16,17,18,19,20,21,22,23,24,25,26,27,28,29,30,31,32,33,34] rfl rfl rfl rfl (s_neq rfl rfl ⟨rfl,rfl,rfl⟩) ?_
      refine d_op ?_
      refine x_run0 [(77,pB (!decide (e1.physical = e1.physical))),(88,pB (!decide (e1.count = e1.count)))] [0,1,2,3,4,5,6,7,8,9,10,11,12,13,14,15,16,17,18,19,20,21,22,23,24,25,26,27,28,29,30,31,32,33,34,35] rfl rfl rfl rfl (s_pick_f rfl g3 rfl ⟨rfl,rfl,rfl⟩) ?_
      refine d_end ⟨by kernel_rfl, ?_⟩
      refine q_then ?_
      refine w_if rfl (fun c3 => ?_) (fun c3 => ?_)
      ·
       have c3_ := c3
       exact absurd c3 (by simp)
      have c3_ := c3
      try simp only [sB] at c3
      refine w_skip ?_
      refine q_block ?_
      refine q_then ?_
      refine w_R ?_
      refine qo hnt rfl (s_addN (a := i) (b := 1) rfl rfl (by omega) (by omega) (by omega) ?_)
      refine qm hnt rfl rfl ?_
      refine r_end ?_
      refine q_then ?_
      refine ⟨(i + 1), ?_, ?_,⟨[],rfl,⟨⟨_,rfl,rfl,rfl⟩,⟨_,rfl,rfl,rfl⟩,⟨_,rfl,rfl,rfl⟩,⟨_,rfl,rfl,rfl⟩,⟨_,rfl,rfl,rfl⟩,⟨_,rfl,rfl,rfl⟩,⟨_,rfl,rfl,rfl⟩,⟨_,rfl,rfl,rfl⟩,trivial⟩,trivial,by rw [hk]; decide⟩⟩
      ·
       omega
      · omega
     exact absurd g3 (by simp)
    exact absurd g2 (by simp)
   have c2_ := c2
   try simp only [sB] at c2
   refine w_exit ?_
   refine q_then_exit ?_
   refine q_then_exit ?_
   refine q_block_exit ?_
   refine q_then ?_
   refine w_seq ?_
   refine w_seq ?_
   refine w_R ?_
   refine qm hnt rfl rfl ?_
   refine qo hnt rfl (s_lenM (l := l) tab_22 rfl (hM_sl (f := eWindow) rfl) ?_)
   refine qm hnt rfl rfl ?_
   refine r_end ?_
   refine q_then ?_
   refine w_block ?_
   refine loop1 (fun (j : Nat) => j ≤ l.length) (fun (j : Nat) => [(0,pS 4 cl_l eWindow l),(1,pS 4 cl_m eWindow m),(2,pI space),(4,pI n),(91,pS 4 cl_l eWindow l),(92,pN l.length),(93,pN j)]) 0 (fun (j : Nat) => []) (fun (j : Nat) => l.length - j) (0) ?_ ⟨[],rfl,⟨⟨_,rfl,rfl,rfl⟩,⟨_,rfl,rfl,rfl⟩,⟨_,rfl,rfl,rfl⟩,⟨_,rfl,rfl,rfl⟩,⟨_,rfl,rfl,rfl⟩,⟨_,rfl,rfl,rfl⟩,⟨_,rfl,rfl,rfl⟩,trivial⟩,trivial,by rw [hk]; decide⟩ ?_
   · omega
   ·
    intro j hJ
    refine w_seq ?_
    refine w_R ?_
    refine qo hnt rfl (s_lss rfl rfl ?_)
    refine r_end ?_
    refine q_then ?_
    refine w_seq ?_
    refine w_if rfl (fun c4 => ?_) (fun c4 => ?_)
    ·
     have c4_ := c4
     try simp only [sB] at c4
     refine w_skip ?_
     refine q_then ?_
     refine w_seq ?_
     refine w_block ?_
     refine w_seq ?_
     refine w_R ?_
     obtain ⟨e2,he2⟩ := get_of_lt l (i := j) (by omega)
     refine qo hnt rfl (s_iaM (q := j) (b := e2) (f := eWindow) tab_22 rfl tab_28 rfl rfl (by omega) rfl he2 ?_)
     refine qo hnt rfl (s_load_ro tab_28 rfl rfl rfl ?_)
     refine qo hnt rfl (s_alloc tab_28 ?_)
     refine qo hnt rfl (s_store_ptr tab_28 rfl rfl rfl rfl rfl (Nat.le_of_ble_eq_true rfl) ?_)
     refine r_set [(0,pS 4 cl_l eWindow l),(1,pS 4 cl_m eWindow m),(2,pI space),(4,pI n),(17,PV.ptr 0 0),(91,pS 4 cl_l eWindow l),(92,pN l.length),(93,pN j)] [(0,.obj (cWindow e2))] 1 ⟨rfl,rfl,rfl,rfl,rfl,rfl,rfl,rfl,trivial⟩ rfl rfl ?_
     refine r_end ?_
     refine q_then ?_
     refine w_seq ?_
     refine W_drawn tabOk mixed hnt [[],[0],[],[0,1,2],[0,1,2,3]] (by kernel_rfl) ?_
     refine d_op ?_
     refine xL [(17,PV.ptr 0 0)] [] [(0,.obj (cWindow e2))] rfl rfl rfl rfl rfl (s_load_ptr tab_28 rfl rfl rfl (Nat.le_of_ble_eq_true rfl) ⟨rfl,rfl,rfl⟩) ⟨rfl,trivial⟩ rfl ?_
     refine d_op ?_
     refine x_run0 [(97,PV.f (eWindow e2))] [0] rfl rfl rfl rfl (s_callF rfl rfl rfl (w_window_Right e2) rfl ⟨rfl,rfl,rfl⟩) ?_
     refine d_op ?_
     refine xL [(17,PV.ptr 0 0)] [] [(0,.obj (cWindow e2))] rfl rfl rfl rfl rfl (s_load_ptr tab_28 rfl rfl rfl (Nat.le_of_ble_eq_true rfl) ⟨rfl,rfl,rfl⟩) ⟨rfl,trivial⟩ rfl ?_
     refine d_op ?_
     refine x_run0 [(99,PV.f (eWindow e2))] [0,1,2] rfl rfl rfl rfl (s_callF rfl rfl rfl (w_burgageref7_Window e2) rfl ⟨rfl,rfl,rfl⟩) ?_
     refine d_op ?_
     refine x_run0 [(98,pB (winR e2)),(100,pB (winR e2))] [0,1,2,3] rfl rfl rfl rfl (s_nebool tab_4 rfl rfl rfl ⟨rfl,rfl,rfl⟩) ?_
     refine d_end ⟨by kernel_rfl, ?_⟩
     refine q_then ?_
     refine w_if rfl (fun c5 => ?_) (fun c5 => ?_)
     ·
      have c5_ := c5
      exact absurd c5 (by simp)
     have c5_ := c5
     try simp only [sB] at c5
     refine w_skip ?_
     refine q_block ?_
     refine q_then ?_
     refine w_R ?_
     refine qo hnt rfl (s_addN (a := j) (b := 1) rfl rfl (by omega) (by omega) (by omega) ?_)
     refine qm hnt rfl rfl ?_
     refine r_end ?_
     refine q_then ?_
     refine ⟨(j + 1), ?_, ?_,⟨[],rfl,⟨⟨_,rfl,rfl,rfl⟩,⟨_,rfl,rfl,rfl⟩,⟨_,rfl,rfl,rfl⟩,⟨_,rfl,rfl,rfl⟩,⟨_,rfl,rfl,rfl⟩,⟨_,rfl,rfl,rfl⟩,⟨_,rfl,rfl,rfl⟩,trivial⟩,trivial,by rw [hk]; decide⟩⟩
     ·
      omega
     · omega
    have c4_ := c4
    try simp only [sB] at c4
    refine w_exit ?_
    refine q_then_exit ?_
    refine q_then_exit ?_
    refine q_block_exit ?_
    refine q_then ?_
    refine w_seq ?_
    refine w_R ?_
    refine qm hnt rfl rfl ?_
    refine qm hnt rfl rfl ?_
    refine qm hnt rfl rfl ?_
    refine qo hnt rfl (s_callF rfl rfl rfl (w_window_Back l cl_l space n (by omega) (by omega)) rfl ?_)
    refine qm hnt rfl rfl ?_
    refine qo hnt rfl (s_extract rfl rfl ?_)
    refine qo hnt rfl (s_extract rfl rfl ?_)
    refine qa hnt rfl rfl ?_
    refine qa hnt rfl rfl ?_
    refine r_end ?_
    refine q_then ?_
    refine w_seq ?_
    refine w_R ?_
    refine qm hnt rfl rfl ?_
    refine qm hnt rfl rfl ?_
    refine qm hnt rfl rfl ?_
    refine qo hnt rfl (s_callF rfl rfl rfl (w_burgageref7_Back l cl_l space n (by omega) (by omega)) rfl ?_)
    refine qm hnt rfl rfl ?_
    refine qo hnt rfl (s_extract rfl rfl ?_)
    refine qo hnt rfl (s_extract rfl rfl ?_)
    refine qa hnt rfl rfl ?_
    refine qa hnt rfl rfl ?_
    refine r_end ?_
    refine q_then ?_
    refine w_seq ?_
    refine w_R ?_
    refine qm hnt rfl rfl ?_
    refine qm hnt rfl rfl ?_
    refine qo hnt rfl (s_eql rfl rfl ?_)
    refine qm hnt rfl rfl ?_
    refine r_if tabOk hnt rfl rfl rfl (fun g4 => ?_) (fun g4 => ?_)
    ·
     have g4' := g4
     try simp only [sB] at g4'
     refine qm hnt rfl rfl ?_
     refine ry hnt rfl rfl rfl g4 ?_
     refine qm hnt rfl rfl ?_
     refine ry hnt rfl rfl rfl g4 ?_
     refine qo hnt rfl (s_eqbool tab_4 rfl rfl rfl ?_)
     refine qo hnt rfl (s_pick_t rfl g4 rfl ?_)
     refine qm hnt rfl rfl ?_
     refine r_if tabOk hnt rfl rfl rfl (fun g5 => ?_) (fun g5 => ?_)
     ·
      have g5' := g5
      try simp only [sB] at g5'
      refine qm hnt rfl rfl ?_
      refine ry hnt rfl rfl rfl g5 ?_
      refine qm hnt rfl rfl ?_
      refine ry hnt rfl rfl rfl g5 ?_
      refine qo hnt rfl (s_callF rfl rfl rfl (w_window_Meets l cl_l m cl_m (by omega) (by omega)) rfl ?_)
      refine ry hnt rfl rfl rfl g5 ?_
      refine qm hnt rfl rfl ?_
      refine ry hnt rfl rfl rfl g5 ?_
      refine qm hnt rfl rfl ?_
      refine ry hnt rfl rfl rfl g5 ?_
      refine qo hnt rfl (s_callF rfl rfl rfl (w_burgageref7_Meets l cl_l m cl_m (by omega) (by omega)) rfl ?_)
      refine ry hnt rfl rfl rfl g5 ?_
      refine qo hnt rfl (s_eqbool tab_4 rfl rfl rfl ?_)
      refine qo hnt rfl (s_pick_t rfl g5 rfl ?_)
      refine qm hnt rfl rfl ?_
      refine r_if tabOk hnt rfl rfl rfl (fun g6 => ?_) (fun g6 => ?_)
      ·
       have g6' := g6
       try simp only [sB] at g6'
       refine qm hnt rfl rfl ?_
       refine ry hnt rfl rfl rfl g6 ?_
       refine qo hnt rfl (s_callF rfl rfl rfl (w_window_Own l cl_l (by omega)) rfl ?_)
       refine ry hnt rfl rfl rfl g6 ?_
       refine qm hnt rfl rfl ?_
       refine ry hnt rfl rfl rfl g6 ?_
       refine qo hnt rfl (s_callF rfl rfl rfl (w_burgageref7_Own l cl_l (by omega)) rfl ?_)
       refine ry hnt rfl rfl rfl g6 ?_
       refine qo hnt rfl (s_eqbool tab_4 rfl rfl rfl ?_)
       refine qo hnt rfl (s_pick_t rfl g6 rfl ?_)
       refine qa hnt rfl rfl ?_
       refine r_set [(10,pB ((ownW l) == (ownW l)))] [] 0 ⟨rfl,trivial⟩ rfl rfl ?_
       refine r_end ?_
       refine q_then ?_
       refine w_le (s := 10) (y := pB true) rfl (le_of_eq (congrArg (fun z : Bool => pB z) (show ((ownW l) == (ownW l)) = true by simp))) ?_
       refine w_ret ?_
       exact fin_plain (ret_tmp rfl ret_nil) rfl rfl ⟨rfl,rfl,rfl⟩
      exact absurd g6 (by simp)
     exact absurd g5 (by simp)
    exact absurd g4 (by simp)
 exact absurd g1 (by simp)
theorem w_burgagelaw10_known   :
    T Try.prog 15 [] 0 [] (Ret (pB true) 0 []) := by
 refine t_fun tabOk (n := 97) (rs := [.tmp 0]) Try.func15 rfl rfl rfl rfl (Nat.le_of_ble_eq_true rfl) ?_
 intro c hnt hk
 refine w_seq ?_
 refine w_R ?_
 refine qa hnt rfl rfl ?_
 refine r_end ?_
 refine q_then ?_
 refine w_seq ?_
 refine w_R ?_
 refine qo hnt rfl (s_build tab_28 rfl rfl (b_cons rfl tab_3 rfl rfl rfl (Nat.le_of_ble_eq_true rfl) (b_cons rfl tab_3 rfl rfl rfl (Nat.le_of_ble_eq_true rfl) (b_cons rfl tab_3 rfl rfl rfl (Nat.le_of_ble_eq_true rfl) (b_cons rfl tab_3 rfl rfl rfl (Nat.le_of_ble_eq_true rfl) (b_nilN (cs' := [pI 3,pI 0,pI 100,pI 4]) rfl ?_))))))
 refine qo hnt rfl (s_build tab_28 rfl rfl (b_cons rfl tab_3 rfl rfl rfl (Nat.le_of_ble_eq_true rfl) (b_cons rfl tab_3 rfl rfl rfl (Nat.le_of_ble_eq_true rfl) (b_cons rfl tab_3 rfl rfl rfl (Nat.le_of_ble_eq_true rfl) (b_cons rfl tab_3 rfl rfl rfl (Nat.le_of_ble_eq_true rfl) (b_nilN (cs' := [pI 3,pI 4,pI 50,pI 4]) rfl ?_))))))
 refine qo hnt rfl (s_mkM (f := eWindow) [(⟨3,0,100,4⟩ : TWindow),(⟨3,4,50,4⟩ : TWindow)] tab_22 rfl tab_28 ⟨rfl,by decide⟩ (by decide) rfl rfl rfl rfl ?_)
 refine qa hnt rfl rfl ?_
 refine r_set [(1,PV.ref 0 0 none)] [(0,oB true 4 eWindow [(⟨3,0,100,4⟩ : TWindow),(⟨3,4,50,4⟩ : TWindow)])] 1 ⟨rfl,trivial⟩ rfl rfl ?_
 refine r_end ?_
 refine q_then ?_
 refine w_seq ?_
 refine w_H (H' := [(0,oB true 4 eWindow LK)]) (congrArg (fun z => ([(0,oB true 4 eWindow z)] : Heap)) (show [(⟨3,0,100,4⟩ : TWindow),(⟨3,4,50,4⟩ : TWindow)] = LK by rfl)) ?_
 refine w_frzM (s := 1) (f := eWindow) rfl rfl view_0 ?_
 refine w_R ?_
 refine qm hnt rfl rfl ?_
 refine qo hnt rfl (s_callF rfl rfl rfl (w_window_Map LK false 3 2 4 (by decide)) rfl ?_)
 refine qm hnt rfl rfl ?_
 refine qo hnt rfl (s_extract rfl rfl ?_)
 refine qo hnt rfl (s_extract rfl rfl ?_)
 refine qa hnt rfl rfl ?_
 refine qa hnt rfl rfl ?_
 refine r_end ?_
 refine q_then ?_
 refine w_seq ?_
 refine w_R ?_
 refine qm hnt rfl rfl ?_
 refine qo hnt rfl (s_callF rfl rfl rfl (w_window_Map LK false 3 6 4 (by decide)) rfl ?_)
 refine qm hnt rfl rfl ?_
 refine qo hnt rfl (s_extract rfl rfl ?_)
 refine qo hnt rfl (s_extract rfl rfl ?_)
 refine qa hnt rfl rfl ?_
 refine qa hnt rfl rfl ?_
 refine r_end ?_
 refine q_then ?_
 refine w_seq ?_
 refine w_R ?_
 refine qm hnt rfl rfl ?_
 refine qo hnt rfl (s_callF rfl rfl rfl (w_window_Map LK false 2 0 1 (by decide)) rfl ?_)
 refine qm hnt rfl rfl ?_
 refine qo hnt rfl (s_extract rfl rfl ?_)
 refine qo hnt rfl (s_extract rfl rfl ?_)
 refine qa hnt rfl rfl ?_
 refine qa hnt rfl rfl ?_
 refine r_end ?_
 refine q_then ?_
 refine w_seq ?_
 refine w_R ?_
 refine qm hnt rfl rfl ?_
 refine qo hnt rfl (s_callF rfl rfl rfl (w_window_Back LK false 3 51 (by decide) (by omega)) rfl ?_)
 refine qm hnt rfl rfl ?_
 refine qo hnt rfl (s_extract rfl rfl ?_)
 refine qo hnt rfl (s_extract rfl rfl ?_)
 refine qa hnt rfl rfl ?_
 refine qa hnt rfl rfl ?_
 refine r_end ?_
 refine q_then ?_
 refine w_seq ?_
 refine w_R ?_
 refine qm hnt rfl rfl ?_
 refine qo hnt rfl (s_callF rfl rfl rfl (w_window_Back LK false 3 54 (by decide) (by omega)) rfl ?_)
 refine qm hnt rfl rfl ?_
 refine qo hnt rfl (s_extract rfl rfl ?_)
 refine qo hnt rfl (s_extract rfl rfl ?_)
 refine qa hnt rfl rfl ?_
 refine qa hnt rfl rfl ?_
 refine r_set [(1,pS 4 false eWindow LK),(2,pS 3 true ePiece (mapL LK 3 2 4)),(3,pB (mapOk LK 3 2 4)),(5,pB (mapOk LK 3 6 4)),(7,pB (mapOk LK 2 0 1)),(8,pI (backV LK 3 51)),(9,pB (backOk LK 3 51)),(11,pB (backOk LK 3 54))] [(0,oB false 4 eWindow LK)] 1 ⟨rfl,rfl,rfl,rfl,rfl,rfl,rfl,rfl,trivial⟩ rfl rfl ?_
 refine r_end ?_
 refine q_then ?_
 refine w_seq ?_
 refine w_R ?_
 refine qm hnt rfl rfl ?_
 refine qm hnt rfl rfl ?_
 refine r_if tabOk hnt rfl rfl rfl (fun g1 => ?_) (fun g1 => ?_)
 ·
  have g1' := g1
  try simp only [sB] at g1'
  refine qm hnt rfl rfl ?_
  refine ry hnt rfl rfl rfl g1 ?_
  refine qo hnt rfl (s_build tab_36 rfl rfl (b_cons rfl tab_3 rfl rfl rfl (Nat.le_of_ble_eq_true rfl) (b_cons rfl tab_3 rfl rfl rfl (Nat.le_of_ble_eq_true rfl) (b_cons rfl tab_3 rfl rfl rfl (Nat.le_of_ble_eq_true rfl) (b_nilN (cs' := [pI 2,pI 102,pI 2]) rfl ?_)))))
  refine ry hnt rfl rfl rfl g1 ?_
  refine qo hnt rfl (s_build tab_36 rfl rfl (b_cons rfl tab_3 rfl rfl rfl (Nat.le_of_ble_eq_true rfl) (b_cons rfl tab_3 rfl rfl rfl (Nat.le_of_ble_eq_true rfl) (b_cons rfl tab_3 rfl rfl rfl (Nat.le_of_ble_eq_true rfl) (b_nilN (cs' := [pI 4,pI 50,pI 2]) rfl ?_)))))
  refine ry hnt rfl rfl rfl g1 ?_
  refine qo hnt rfl (s_mkM (f := ePiece) [(⟨2,102,2⟩ : TPiece),(⟨4,50,2⟩ : TPiece)] tab_32 rfl tab_36 ⟨rfl,by decide⟩ (by decide) rfl rfl rfl rfl ?_)
  refine ry hnt rfl rfl rfl g1 ?_
  refine qo hnt rfl (s_callX (r2 := pB (decide ((mapL LK 3 2 4) = [(⟨2,102,2⟩ : TPiece),(⟨4,50,2⟩ : TPiece)]))) (nx1 := 2) (H2 := [(1,oB false 3 ePiece [(⟨2,102,2⟩ : TPiece),(⟨4,50,2⟩ : TPiece)]),(0,oB false 4 eWindow LK)]) (H3 := [(1,oB false 3 ePiece [(⟨2,102,2⟩ : TPiece),(⟨4,50,2⟩ : TPiece)]),(0,oB false 4 eWindow LK)]) [] [] rfl rfl rfl (handed_of (by decide) trivial) rfl rfl rfl rfl rfl rfl (w_burgagebook_Same_window_Piece (mapL LK 3 2 4) true [(⟨2,102,2⟩ : TPiece),(⟨4,50,2⟩ : TPiece)] false (by rw [kn_2]; decide)) rfl (dist_of rfl) rfl rfl rfl rfl ?_)
  refine qo hnt rfl (s_pick_t rfl g1 rfl ?_)
  refine qm hnt rfl rfl ?_
  refine r_if tabOk hnt rfl rfl rfl (fun g2 => ?_) (fun g2 => ?_)
  ·
   have g2' := g2
   try simp only [sB] at g2'
   refine qm hnt rfl rfl ?_
   refine ry hnt rfl rfl rfl g2 ?_
   refine qo hnt rfl (s_not rfl ?_)
   refine qo hnt rfl (s_pick_t rfl g2 rfl ?_)
   refine qm hnt rfl rfl ?_
   refine r_if tabOk hnt rfl rfl rfl (fun g3 => ?_) (fun g3 => ?_)
   ·
    have g3' := g3
    try simp only [sB] at g3'
    refine qm hnt rfl rfl ?_
    refine ry hnt rfl rfl rfl g3 ?_
    refine qo hnt rfl (s_not rfl ?_)
    refine qo hnt rfl (s_pick_t rfl g3 rfl ?_)
    refine qm hnt rfl rfl ?_
    refine r_if tabOk hnt rfl rfl rfl (fun g4 => ?_) (fun g4 => ?_)
    ·
     have g4' := g4
     try simp only [sB] at g4'
     refine qm hnt rfl rfl ?_
     refine qo hnt rfl (s_pick_t rfl g4 rfl ?_)
     refine qm hnt rfl rfl ?_
     refine r_if tabOk hnt rfl rfl rfl (fun g5 => ?_) (fun g5 => ?_)
     ·
      have g5' := g5
      try simp only [sB] at g5'
      refine qm hnt rfl rfl ?_
      refine ry hnt rfl rfl rfl g5 ?_
      refine qo hnt rfl (s_eql rfl rfl ?_)
      refine qo hnt rfl (s_pick_t rfl g5 rfl ?_)
      refine qm hnt rfl rfl ?_
      refine r_if tabOk hnt rfl rfl rfl (fun g6 => ?_) (fun g6 => ?_)
      ·
       have g6' := g6
       try simp only [sB] at g6'
       refine qm hnt rfl rfl ?_
       refine ry hnt rfl rfl rfl g6 ?_
       refine qo hnt rfl (s_not rfl ?_)
       refine qo hnt rfl (s_pick_t rfl g6 rfl ?_)
       refine qm hnt rfl rfl ?_
       refine r_if tabOk hnt rfl rfl rfl (fun g7 => ?_) (fun g7 => ?_)
       ·
        have g7' := g7
        try simp only [sB] at g7'
        refine qm hnt rfl rfl ?_
        refine ry hnt rfl rfl rfl g7 ?_
        refine qo hnt rfl (s_callF rfl rfl rfl (w_window_Own LK false (by decide)) rfl ?_)
        refine qo hnt rfl (s_pick_t rfl g7 rfl ?_)
        refine qm hnt rfl rfl ?_
        refine r_if tabOk hnt rfl rfl rfl (fun g8 => ?_) (fun g8 => ?_)
        ·
         have g8' := g8
         try simp only [sB] at g8'
         refine qm hnt rfl rfl ?_
         refine ry hnt rfl rfl rfl g8 ?_
         refine qm hnt rfl rfl ?_
         refine ry hnt rfl rfl rfl g8 ?_
         refine qo hnt rfl (s_callF rfl rfl rfl (w_window_Meets LK false LK false (by decide) (by decide)) rfl ?_)
         refine qo hnt rfl (s_pick_t rfl g8 rfl ?_)
         refine qm hnt rfl rfl ?_
         refine r_if tabOk hnt rfl rfl rfl (fun g9 => ?_) (fun g9 => ?_)
         ·
          have g9' := g9
          try simp only [sB] at g9'
          refine qm hnt rfl rfl ?_
          refine ry hnt rfl rfl rfl g9 ?_
          refine qo hnt rfl (s_callF rfl rfl rfl (T.leL (args := [pS 4 false eWindow LK,pNil]) (args' := [pS 4 false eWindow LK,pS 4 false eWindow []]) ⟨le_refl _,⟨le_F (FLe.nil 4 false),trivial⟩⟩ (w_window_Meets LK false [] false (by decide) (by decide))) rfl ?_)
          refine ry hnt rfl rfl rfl g9 ?_
          refine qo hnt rfl (s_not rfl ?_)
          refine qo hnt rfl (s_pick_t rfl g9 rfl ?_)
          refine qm hnt rfl rfl ?_
          refine r_if tabOk hnt rfl rfl rfl (fun g10 => ?_) (fun g10 => ?_)
          ·
           have g10' := g10
           try simp only [sB] at g10'
           refine qm hnt rfl rfl ?_
           refine ry hnt rfl rfl rfl g10 ?_
           obtain ⟨e1,he1⟩ := get_of_lt LK (i := 0) (by decide)
           refine qo hnt rfl (s_iaM (q := 0) (b := e1) (f := eWindow) tab_22 rfl tab_28 rfl rfl (by omega) rfl he1 ?_)
           refine ry hnt rfl rfl rfl g10 ?_
           refine qo hnt rfl (s_load_ro tab_28 rfl rfl rfl ?_)
           refine ry hnt rfl rfl rfl g10 ?_
           refine qo hnt rfl (s_callF rfl rfl rfl (w_window_Right e1) rfl ?_)
           refine qo hnt rfl (s_pick_t rfl g10 rfl ?_)
           refine qm hnt rfl rfl ?_
           refine r_if tabOk hnt rfl rfl rfl (fun g11 => ?_) (fun g11 => ?_)
           ·
            have g11' := g11
            try simp only [sB] at g11'
            refine qo hnt rfl (s_build tab_28 rfl rfl (b_cons rfl tab_3 rfl rfl rfl (Nat.le_of_ble_eq_true rfl) (b_cons rfl tab_3 rfl rfl rfl (Nat.le_of_ble_eq_true rfl) (b_nil ?_))))
            refine ry hnt rfl rfl rfl g11 ?_
            refine qo hnt rfl (s_callF rfl rfl rfl (w_window_Right (⟨4,0,0,1⟩ : TWindow)) rfl ?_)
            refine ry hnt rfl rfl rfl g11 ?_
            refine qo hnt rfl (s_not rfl ?_)
            refine qo hnt rfl (s_pick_t rfl g11 rfl ?_)
            refine qm hnt rfl rfl ?_
            refine r_if tabOk hnt rfl rfl rfl (fun g12 => ?_) (fun g12 => ?_)
            ·
             have g12' := g12
             try simp only [sB] at g12'
             refine qo hnt rfl (s_build tab_28 rfl rfl (b_cons rfl tab_3 rfl rfl rfl (Nat.le_of_ble_eq_true rfl) (b_cons rfl tab_3 rfl rfl rfl (Nat.le_of_ble_eq_true rfl) (b_nil ?_))))
             refine ry hnt rfl rfl rfl g12 ?_
             refine qo hnt rfl (s_callF rfl rfl rfl (w_window_Right (⟨0,0,511,2⟩ : TWindow)) rfl ?_)
             refine ry hnt rfl rfl rfl g12 ?_
             refine qo hnt rfl (s_not rfl ?_)
             refine qo hnt rfl (s_pick_t rfl g12 rfl ?_)
             refine qa hnt rfl rfl ?_
             refine r_set [(0,pB (!(winR (⟨0,0,511,2⟩ : TWindow))))] [(1,oB false 3 ePiece [(⟨2,102,2⟩ : TPiece),(⟨4,50,2⟩ : TPiece)]),(0,oB false 4 eWindow LK)] 2 ⟨rfl,trivial⟩ rfl rfl ?_
             refine r_end ?_
             refine q_then ?_
             refine w_le (s := 0) (y := pB true) rfl (le_of_eq (congrArg (fun z : Bool => pB z) (show (!(winR (⟨0,0,511,2⟩ : TWindow))) = true by decide))) ?_
             refine w_ret ?_
             exact fin_plain (ret_tmp rfl ret_nil) rfl rfl ⟨rfl,rfl,rfl⟩
            exact absurd g12 (by decide)
           exact absurd g11 (by (have h9 : (⟨3,0,100,4⟩ : TWindow) = e1 := Option.some.inj he1; subst h9; decide))
          exact absurd g10 (by decide)
         exact absurd g9 (by decide)
        exact absurd g8 (by decide)
       exact absurd g7 (by decide)
      exact absurd g6 (by decide)
     exact absurd g5 (by decide)
    exact absurd g4 (by (rw [kn_4]; decide))
   exact absurd g3 (by (rw [kn_3]; decide))
  exact absurd g2 (by (rw [kn_2]; decide))
 exact absurd g1 (by (rw [kn_1]; decide))
theorem w_burgagelaw10_WindowNumbers   :
    T Try.prog 3 [] 0 [] (Ret (pB true) 0 []) := by
 refine t_fun tabOk (n := 77) (rs := [.tmp 0]) Try.func3 rfl rfl rfl rfl (Nat.le_of_ble_eq_true rfl) ?_
 intro c hnt hk
 refine w_seq ?_
 refine w_R ?_
 refine qa hnt rfl rfl ?_
 refine r_end ?_
 refine q_then ?_
 refine w_seq ?_
 refine w_seq ?_
 refine w_R ?_
 refine qa hnt rfl rfl ?_
 refine r_end ?_
 refine q_then ?_
 refine w_block ?_
 refine loop1 (fun (k : Nat) => k ≤ 40) (fun (k : Nat) => [(1,pN k)]) 0 (fun (k : Nat) => []) (fun (k : Nat) => 40 - k) (0) ?_ ⟨[],rfl,⟨⟨_,rfl,rfl,rfl⟩,trivial⟩,trivial,by rw [hk]; decide⟩ ?_
 · omega
 ·
  intro k hI
  refine w_seq ?_
  refine w_seq ?_
  refine w_R ?_
  refine qm hnt rfl rfl ?_
  refine qo hnt rfl (s_lss rfl rfl ?_)
  refine r_end ?_
  refine q_then ?_
  refine w_if rfl (fun c1 => ?_) (fun c1 => ?_)
  ·
   have c1_ := c1
   try simp only [sB] at c1
   refine w_skip ?_
   refine q_then ?_
   refine w_seq ?_
   refine w_block ?_
   refine w_seq ?_
   refine w_R ?_
   refine qm hnt rfl rfl ?_
   refine qo hnt rfl (s_callF rfl rfl rfl (w_burgagelaw10_tape k (by omega)) rfl ?_)
   refine qm hnt rfl rfl ?_
   refine qo hnt rfl (s_callX1 (p := fun (q1 : List TWindow) => WinsOk q1) (r2 := fun q1 => pS 4 false eWindow q1) (nx1 := 0) (H2 := []) (H3 := fun q1 => []) [] [] rfl rfl rfl (handed_of (by decide) trivial) rfl rfl rfl rfl rfl rfl (w_burgagelaw10_windows (tapeL 47 k) false k (by rw [tapeL_len]; decide) (by omega)) (fun q1 => rfl) (fun q1 => dist_of rfl) (fun q1 => rfl) (fun q1 => rfl) rfl (fun q1 => rfl) (fun q1 hq1 => ?_))
   refine qm hnt rfl rfl ?_
   refine qo hnt rfl (s_addN (a := k) (b := 1) rfl rfl (by omega) (by omega) (by omega) ?_)
   refine qo hnt rfl (s_callF rfl rfl rfl (w_burgagelaw10_tape (k + 1) (by omega)) rfl ?_)
   refine qm hnt rfl rfl ?_
   refine qo hnt rfl (s_callX1 (p := fun (q2 : List TWindow) => WinsOk q2) (r2 := fun q2 => pS 4 false eWindow q2) (nx1 := 0) (H2 := []) (H3 := fun q2 => []) [] [] rfl rfl rfl (handed_of (by decide) trivial) rfl rfl rfl rfl rfl rfl (w_burgagelaw10_windows (tapeL 47 (k + 1)) false k (by rw [tapeL_len]; decide) (by omega)) (fun q2 => rfl) (fun q2 => dist_of rfl) (fun q2 => rfl) (fun q2 => rfl) rfl (fun q2 => rfl) (fun q2 hq2 => ?_))
   refine qa hnt rfl rfl ?_
   refine qa hnt rfl rfl ?_
   refine r_end ?_
   refine q_then ?_
   refine w_seq ?_
   have hl1 := hq1.len
   have hl2 := hq2.len
   refine w_R ?_
   refine qa hnt rfl rfl ?_
   refine r_end ?_
   refine q_then ?_
   refine w_block ?_
   refine loop1 (fun (a : Int) => -1 ≤ a ∧ a ≤ 62) (fun (a : Int) => [(1,pN k),(2,pS 4 false eWindow q1),(3,pS 4 false eWindow q2),(4,pI a)]) 0 (fun (a : Int) => []) (fun (a : Int) => (63 - a).toNat) ((-1)) ?_ ⟨[],rfl,⟨⟨_,rfl,rfl,rfl⟩,⟨_,rfl,rfl,rfl⟩,⟨_,rfl,rfl,rfl⟩,⟨_,rfl,rfl,rfl⟩,trivial⟩,trivial,by rw [hk]; decide⟩ ?_
   · omega
   ·
    intro a hA
    refine w_seq ?_
    refine w_seq ?_
    refine w_R ?_
    refine qm hnt rfl rfl ?_
    refine qo hnt rfl (s_lss rfl rfl ?_)
    refine r_end ?_
    refine q_then ?_
    refine w_if rfl (fun c2 => ?_) (fun c2 => ?_)
    ·
     have c2_ := c2
     try simp only [sB] at c2
     refine w_skip ?_
     refine q_then ?_
     refine w_seq ?_
     refine w_block ?_
     refine w_seq ?_
     refine w_R ?_
     refine qo hnt rfl (s_mkM (f := encI) ([(-1),0,1,4,30,70] : List Int) tab_24 rfl tab_3 ⟨rfl,by decide⟩ (by decide) rfl rfl rfl rfl ?_)
     refine qo hnt rfl (s_lenM (l := ([(-1),0,1,4,30,70] : List Int)) tab_24 rfl (hM_ref0 (f := encI) rfl rfl) ?_)
     refine qm hnt rfl rfl ?_
     refine r_set [(1,pN k),(2,pS 4 false eWindow q1),(3,pS 4 false eWindow q2),(4,pI a),(26,PV.ref 0 0 none),(27,pN (([(-1),0,1,4,30,70] : List Int).length)),(28,pI 0)] [(0,oB true 1 encI ([(-1),0,1,4,30,70] : List Int))] 1 ⟨rfl,rfl,rfl,rfl,rfl,rfl,rfl,trivial⟩ rfl rfl ?_
     refine r_end ?_
     refine q_then ?_
     refine w_block ?_
     refine loop1 (fun (j : Nat) => j ≤ 6) (fun (j : Nat) => [(1,pN k),(2,pS 4 false eWindow q1),(3,pS 4 false eWindow q2),(4,pI a),(26,PV.ref 0 0 none),(27,pN (([(-1),0,1,4,30,70] : List Int).length)),(28,pN j)]) 1 (fun (j : Nat) => [(0,oB true 1 encI ([(-1),0,1,4,30,70] : List Int))]) (fun (j : Nat) => 6 - j) (0) ?_ ⟨[(0,0)],by rw [hk]; decide,⟨⟨_,rfl,rfl,rfl⟩,⟨_,rfl,rfl,rfl⟩,⟨_,rfl,rfl,rfl⟩,⟨_,rfl,rfl,rfl⟩,⟨_,rfl,rfl,rfl⟩,⟨_,rfl,rfl,rfl⟩,⟨_,rfl,rfl,rfl⟩,trivial⟩,⟨⟨_,_,rfl,rfl,rfl,rfl⟩,trivial⟩,by rw [hk]; decide⟩ ?_
     · omega
     ·
      intro j hJ
      refine w_seq ?_
      have h6 : ([(-1),0,1,4,30,70] : List Int).length = 6 := rfl
      refine w_R ?_
      refine qo hnt rfl (s_lss rfl rfl ?_)
      refine r_end ?_
      refine q_then ?_
      refine w_seq ?_
      refine w_if rfl (fun c3 => ?_) (fun c3 => ?_)
      ·
       have c3_ := c3
       try simp only [sB] at c3
       refine w_skip ?_
       refine q_then ?_
       refine w_seq ?_
       refine w_block ?_
       refine w_seq ?_
       refine w_R ?_
       refine qo hnt rfl (s_iaR0 (q := j) (f := encI) (l := ([(-1),0,1,4,30,70] : List Int)) tab_24 rfl tab_3 rfl rfl (by omega) rfl rfl (by omega) ?_)
       obtain ⟨e1,he1⟩ := get_of_lt ([(-1),0,1,4,30,70] : List Int) (i := j) (by omega)
       refine qo hnt rfl (s_ldM (b := e1) (f := encI) tab_3 rfl rfl rfl rfl he1 rfl ?_)
       refine qa hnt rfl rfl ?_
       refine r_end ?_
       refine q_then ?_
       refine w_seq ?_
       have hm2 := List.mem_of_getElem? he1
       simp only [List.mem_cons,List.not_mem_nil,or_false] at hm2
       refine w_R ?_
       refine qm hnt rfl rfl ?_
       refine qm hnt rfl rfl ?_
       refine qm hnt rfl rfl ?_
       refine qo hnt rfl (s_remN (a := k) (b := 6) rfl rfl (by omega) (by omega) (by omega) ?_)
       refine qo hnt rfl (s_subi (r := ((k % 6 : Nat) : Int) - 1) rfl rfl rfl (by omega) ?_)
       refine qm hnt rfl rfl ?_
       refine qm hnt rfl rfl ?_
       refine qo hnt rfl (s_callF rfl rfl rfl (w_burgagelaw10_same q1 false q2 false (((k % 6 : Nat) : Int) - 1) a e1 (by omega) (by omega) (by omega)) rfl ?_)
       refine qo hnt rfl (s_not rfl ?_)
       refine qm hnt rfl rfl ?_
       refine ry hnt rfl rfl rfl rfl ?_
       refine qo hnt rfl (s_mkM (f := eWindow) ([] : List TWindow) tab_22 rfl tab_28 ⟨rfl,by decide⟩ (by decide) rfl rfl rfl rfl ?_)
       refine ry hnt rfl rfl rfl rfl ?_
       refine qm hnt rfl rfl ?_
       refine ry hnt rfl rfl rfl rfl ?_
       refine qo hnt rfl (s_appR0 (f := eWindow) (l := ([] : List TWindow)) (xs := q1) tab_22 rfl tab_28 ⟨rfl,by decide,by decide⟩ (srcM tab_22 rfl (hM_sl (f := eWindow) rfl)) rfl rfl (by (simp; omega)) ?_)
       refine ry hnt rfl rfl rfl rfl ?_
       refine qm hnt rfl rfl ?_
       refine ry hnt rfl rfl rfl rfl ?_
       refine qo hnt rfl (s_appR0 (f := eWindow) (l := q1) (xs := q2) tab_22 rfl tab_28 ⟨rfl,by decide,by decide⟩ (srcM tab_22 rfl (hM_sl (f := eWindow) rfl)) rfl rfl (by (simp; omega)) ?_)
       refine ry hnt rfl rfl rfl rfl ?_
       refine qm hnt rfl rfl ?_
       refine ry hnt rfl rfl rfl rfl ?_
       refine qm hnt rfl rfl ?_
       refine ry hnt rfl rfl rfl rfl ?_
       refine qm hnt rfl rfl ?_
       refine ry hnt rfl rfl rfl rfl ?_
       refine qm hnt rfl rfl ?_
       refine ry hnt rfl rfl rfl rfl ?_
       refine qo hnt rfl (s_addi (r := e1 + a) rfl rfl rfl (by omega) ?_)
       refine ry hnt rfl rfl rfl rfl ?_
       refine qo hnt rfl (s_callX (r2 := pB true) (nx1 := 4) (H2 := [(3,oB false 4 eWindow (q1 ++ q2)),(0,oB true 1 encI ([(-1),0,1,4,30,70] : List Int))]) (H3 := [(3,oB false 4 eWindow (q1 ++ q2)),(0,oB true 1 encI ([(-1),0,1,4,30,70] : List Int))]) [] [] rfl rfl rfl (handed_of (by decide) trivial) rfl rfl rfl rfl rfl rfl (w_burgagelaw10_same (q1 ++ q2) false q1 false 3 a (e1 + a) (by (simp; omega)) (by omega) (by omega)) rfl (dist_of rfl) rfl rfl rfl rfl ?_)
       refine ry hnt rfl rfl rfl rfl ?_
       refine qo hnt rfl (s_not rfl ?_)
       refine qo hnt rfl (s_pick_f rfl rfl rfl ?_)
       refine r_set [(1,pN k),(2,pS 4 false eWindow q1),(3,pS 4 false eWindow q2),(4,pI a),(26,PV.ref 0 0 none),(27,pN (([(-1),0,1,4,30,70] : List Int).length)),(28,pN j),(43,pS 4 false eWindow q1),(45,pS 4 false eWindow q2),(46,PV.ref 3 0 none),(47,pS 4 false eWindow q1),(48,pI a),(49,pI e1),(50,pI a),(51,pI (e1 + a)),(52,pB true),(53,pB (!true)),(54,pB (!true))] [(3,oB false 4 eWindow (q1 ++ q2)),(0,oB true 1 encI ([(-1),0,1,4,30,70] : List Int))] 4 ⟨rfl,rfl,rfl,rfl,rfl,rfl,rfl,rfl,rfl,rfl,rfl,rfl,rfl,rfl,rfl,rfl,rfl,rfl,trivial⟩ rfl rfl ?_
       refine r_end ?_
       refine q_then ?_
       refine w_if rfl (fun e => absurd e (by decide)) (fun _ => ?_)
       refine w_skip ?_
       refine q_block ?_
       refine q_then ?_
       refine w_R ?_
       refine qo hnt rfl (s_addN (a := j) (b := 1) rfl rfl (by omega) (by omega) (by omega) ?_)
       refine qm hnt rfl rfl ?_
       refine r_end ?_
       refine q_then ?_
       refine ⟨(j + 1), ?_, ?_,⟨[(0,0)],by rw [hk]; decide,⟨⟨_,rfl,rfl,rfl⟩,⟨_,rfl,rfl,rfl⟩,⟨_,rfl,rfl,rfl⟩,⟨_,rfl,rfl,rfl⟩,⟨_,rfl,rfl,rfl⟩,⟨_,rfl,rfl,rfl⟩,⟨_,rfl,rfl,rfl⟩,trivial⟩,⟨⟨_,_,rfl,rfl,rfl,rfl⟩,trivial⟩,by rw [hk]; decide⟩⟩
       ·
        omega
       · omega
      have c3_ := c3
      try simp only [sB] at c3
      refine w_exit ?_
      refine q_then_exit ?_
      refine q_then_exit ?_
      refine q_block_exit ?_
      refine q_block ?_
      refine q_then ?_
      refine w_R ?_
      refine qm hnt rfl rfl ?_
      refine qo hnt rfl (s_addi (r := a + 3) rfl rfl rfl (by omega) ?_)
      refine qa hnt rfl rfl ?_
      refine r_end ?_
      refine q_then ?_
      refine ⟨(a + 3), ?_, ?_,⟨[],rfl,⟨⟨_,rfl,rfl,rfl⟩,⟨_,rfl,rfl,rfl⟩,⟨_,rfl,rfl,rfl⟩,⟨_,rfl,rfl,rfl⟩,trivial⟩,trivial,by rw [hk]; decide⟩⟩
      ·
       omega
      · omega
    have c2_ := c2
    try simp only [sB] at c2
    refine w_exit ?_
    refine q_then_exit ?_
    refine q_then_exit ?_
    refine q_block_exit ?_
    refine q_block ?_
    refine q_then ?_
    refine w_R ?_
    refine qm hnt rfl rfl ?_
    refine qo hnt rfl (s_addN (a := k) (b := 1) rfl rfl (by omega) (by omega) (by omega) ?_)
    refine qa hnt rfl rfl ?_
    refine r_end ?_
    refine q_then ?_
    refine ⟨(k + 1), ?_, ?_,⟨[],rfl,⟨⟨_,rfl,rfl,rfl⟩,trivial⟩,trivial,by rw [hk]; decide⟩⟩
    ·
     omega
    · omega
  have c1_ := c1
  try simp only [sB] at c1
  refine w_exit ?_
  refine q_then_exit ?_
  refine q_then_exit ?_
  refine q_block_exit ?_
  refine q_then ?_
  refine w_seq ?_
  refine w_seq ?_
  refine w_R ?_
  refine qo hnt rfl (s_mkM (f := encI) ([511,512,65535,65536,9223372036854775807,(-9223372036854775808)] : List Int) tab_24 rfl tab_3 ⟨rfl,by decide⟩ (by decide) rfl rfl rfl rfl ?_)
  refine qo hnt rfl (s_lenM (l := ([511,512,65535,65536,9223372036854775807,(-9223372036854775808)] : List Int)) tab_24 rfl (hM_ref0 (f := encI) rfl rfl) ?_)
  refine qm hnt rfl rfl ?_
  refine r_set [(56,PV.ref 0 0 none),(57,pN (([511,512,65535,65536,9223372036854775807,(-9223372036854775808)] : List Int).length)),(58,pI 0)] [(0,oB true 1 encI ([511,512,65535,65536,9223372036854775807,(-9223372036854775808)] : List Int))] 1 ⟨rfl,rfl,rfl,trivial⟩ rfl rfl ?_
  refine r_end ?_
  refine q_then ?_
  refine w_block ?_
  refine loop1 (fun (i : Nat) => i ≤ 6) (fun (i : Nat) => [(56,PV.ref 0 0 none),(57,pN (([511,512,65535,65536,9223372036854775807,(-9223372036854775808)] : List Int).length)),(58,pN i)]) 1 (fun (i : Nat) => [(0,oB true 1 encI ([511,512,65535,65536,9223372036854775807,(-9223372036854775808)] : List Int))]) (fun (i : Nat) => 6 - i) (0) ?_ ⟨[(0,0)],by rw [hk]; decide,⟨⟨_,rfl,rfl,rfl⟩,⟨_,rfl,rfl,rfl⟩,⟨_,rfl,rfl,rfl⟩,trivial⟩,⟨⟨_,_,rfl,rfl,rfl,rfl⟩,trivial⟩,by rw [hk]; decide⟩ ?_
  · omega
  ·
   intro i hI6
   refine w_seq ?_
   have h62 : ([511,512,65535,65536,9223372036854775807,(-9223372036854775808)] : List Int).length = 6 := rfl
   refine w_R ?_
   refine qo hnt rfl (s_lss rfl rfl ?_)
   refine r_end ?_
   refine q_then ?_
   refine w_seq ?_
   refine w_if rfl (fun c4 => ?_) (fun c4 => ?_)
   ·
    have c4_ := c4
    try simp only [sB] at c4
    refine w_skip ?_
    refine q_then ?_
    refine w_seq ?_
    refine w_block ?_
    refine w_seq ?_
    refine w_R ?_
    refine qo hnt rfl (s_iaR0 (q := i) (f := encI) (l := ([511,512,65535,65536,9223372036854775807,(-9223372036854775808)] : List Int)) tab_24 rfl tab_3 rfl rfl (by omega) rfl rfl (by omega) ?_)
    obtain ⟨e2,he2⟩ := get_of_lt ([511,512,65535,65536,9223372036854775807,(-9223372036854775808)] : List Int) (i := i) (by omega)
    refine qo hnt rfl (s_ldM (b := e2) (f := encI) tab_3 rfl rfl rfl rfl he2 rfl ?_)
    refine qa hnt rfl rfl ?_
    refine r_end ?_
    refine q_then ?_
    refine w_seq ?_
    have hm3 := List.mem_of_getElem? he2
    simp only [List.mem_cons,List.not_mem_nil,or_false] at hm3
    refine w_R ?_
    refine qm hnt rfl rfl ?_
    refine qo hnt rfl (s_build tab_28 rfl rfl (b_cons rfl tab_3 rfl rfl rfl (Nat.le_of_ble_eq_true rfl) (b_cons rfl tab_3 rfl rfl rfl (Nat.le_of_ble_eq_true rfl) (b_cons rfl tab_3 rfl rfl rfl (Nat.le_of_ble_eq_true rfl) (b_cons rfl tab_3 rfl rfl rfl (Nat.le_of_ble_eq_true rfl) (b_nilN (cs' := [pI 3,pI e2,pI 0,pI 1]) rfl ?_))))))
    refine qm hnt rfl rfl ?_
    refine qo hnt rfl (s_build tab_28 rfl rfl (b_cons rfl tab_3 rfl rfl rfl (Nat.le_of_ble_eq_true rfl) (b_cons rfl tab_3 rfl rfl rfl (Nat.le_of_ble_eq_true rfl) (b_cons rfl tab_3 rfl rfl rfl (Nat.le_of_ble_eq_true rfl) (b_cons rfl tab_3 rfl rfl rfl (Nat.le_of_ble_eq_true rfl) (b_nilN (cs' := [pI 3,pI 0,pI e2,pI 1]) rfl ?_))))))
    refine qm hnt rfl rfl ?_
    refine qo hnt rfl (s_build tab_28 rfl rfl (b_cons rfl tab_3 rfl rfl rfl (Nat.le_of_ble_eq_true rfl) (b_cons rfl tab_3 rfl rfl rfl (Nat.le_of_ble_eq_true rfl) (b_nil ?_))))
    refine qm hnt rfl rfl ?_
    refine qo hnt rfl (s_build tab_28 rfl rfl (b_cons rfl tab_3 rfl rfl rfl (Nat.le_of_ble_eq_true rfl) (b_cons rfl tab_3 rfl rfl rfl (Nat.le_of_ble_eq_true rfl) (b_nil ?_))))
    refine qo hnt rfl (s_mkM (f := eWindow) [(⟨3,e2,0,1⟩ : TWindow),(⟨3,0,e2,1⟩ : TWindow),(⟨e2,0,0,1⟩ : TWindow),(⟨3,0,0,e2⟩ : TWindow)] tab_22 rfl tab_28 ⟨rfl,by decide⟩ (by decide) rfl rfl rfl rfl ?_)
    refine qm hnt rfl rfl ?_
    refine qm hnt rfl rfl ?_
    refine qo hnt rfl (s_callX (r2 := pB true) (nx1 := 2) (H2 := [(1,oB false 4 eWindow [(⟨3,e2,0,1⟩ : TWindow),(⟨3,0,e2,1⟩ : TWindow),(⟨e2,0,0,1⟩ : TWindow),(⟨3,0,0,e2⟩ : TWindow)]),(0,oB true 1 encI ([511,512,65535,65536,9223372036854775807,(-9223372036854775808)] : List Int))]) (H3 := [(1,oB false 4 eWindow [(⟨3,e2,0,1⟩ : TWindow),(⟨3,0,e2,1⟩ : TWindow),(⟨e2,0,0,1⟩ : TWindow),(⟨3,0,0,e2⟩ : TWindow)]),(0,oB true 1 encI ([511,512,65535,65536,9223372036854775807,(-9223372036854775808)] : List Int))]) [] [] rfl rfl rfl (handed_of (by decide) trivial) rfl rfl rfl rfl rfl rfl (T.leL (args := [pS 4 false eWindow [(⟨3,e2,0,1⟩ : TWindow),(⟨3,0,e2,1⟩ : TWindow),(⟨e2,0,0,1⟩ : TWindow),(⟨3,0,0,e2⟩ : TWindow)],pNil,pI 3,pI e2,pI e2]) (args' := [pS 4 false eWindow [(⟨3,e2,0,1⟩ : TWindow),(⟨3,0,e2,1⟩ : TWindow),(⟨e2,0,0,1⟩ : TWindow),(⟨3,0,0,e2⟩ : TWindow)],pS 4 false eWindow [],pI 3,pI e2,pI e2]) ⟨le_refl _,⟨le_F (FLe.nil 4 false),⟨le_refl _,⟨le_refl _,⟨le_refl _,trivial⟩⟩⟩⟩⟩ (w_burgagelaw10_same [(⟨3,e2,0,1⟩ : TWindow),(⟨3,0,e2,1⟩ : TWindow),(⟨e2,0,0,1⟩ : TWindow),(⟨3,0,0,e2⟩ : TWindow)] false [] false 3 e2 e2 (by (simp; done)) (by decide) (by omega))) rfl (dist_of rfl) rfl rfl rfl rfl ?_)
    refine qo hnt rfl (s_not rfl ?_)
    refine r_set [(56,PV.ref 0 0 none),(57,pN (([511,512,65535,65536,9223372036854775807,(-9223372036854775808)] : List Int).length)),(58,pN i),(74,pB (!true))] [(1,oB false 4 eWindow [(⟨3,e2,0,1⟩ : TWindow),(⟨3,0,e2,1⟩ : TWindow),(⟨e2,0,0,1⟩ : TWindow),(⟨3,0,0,e2⟩ : TWindow)]),(0,oB true 1 encI ([511,512,65535,65536,9223372036854775807,(-9223372036854775808)] : List Int))] 2 ⟨rfl,rfl,rfl,rfl,trivial⟩ rfl rfl ?_
    refine r_end ?_
    refine q_then ?_
    refine w_if rfl (fun e => absurd e (by decide)) (fun _ => ?_)
    refine w_skip ?_
    refine q_block ?_
    refine q_then ?_
    refine w_R ?_
    refine qo hnt rfl (s_addN (a := i) (b := 1) rfl rfl (by omega) (by omega) (by omega) ?_)
    refine qm hnt rfl rfl ?_
    refine r_end ?_
    refine q_then ?_
    refine ⟨(i + 1), ?_, ?_,⟨[(0,0)],by rw [hk]; decide,⟨⟨_,rfl,rfl,rfl⟩,⟨_,rfl,rfl,rfl⟩,⟨_,rfl,rfl,rfl⟩,trivial⟩,⟨⟨_,_,rfl,rfl,rfl,rfl⟩,trivial⟩,by rw [hk]; decide⟩⟩
    ·
     omega
    · omega
   have c4_ := c4
   try simp only [sB] at c4
   refine w_exit ?_
   refine q_then_exit ?_
   refine q_then_exit ?_
   refine q_block_exit ?_
   refine q_then ?_
   refine w_seq ?_
   refine w_R ?_
   refine qo hnt rfl (s_callF rfl rfl rfl (w_burgagelaw10_known) rfl ?_)
   refine qa hnt rfl rfl ?_
   refine r_end ?_
   refine q_then ?_
   refine w_ret ?_
   exact fin_plain (ret_tmp rfl ret_nil) rfl rfl ⟨rfl,rfl,rfl⟩
end Go.Proofs.Ytljkbpgcglomfaa
