/- What the law ReplyCounts needs, and no more: merged out of texts of this session by a program of it (wip/tools/prune.py). -/
import Derived.Test.YtljkbpgcglomfaaQReplyCounts2
set_option linter.unusedVariables false
set_option linter.unusedSimpArgs false
set_option maxRecDepth 10000
set_option maxHeartbeats 1000000
namespace Go.Proofs.Ytljkbpgcglomfaa
open Go Go.Proofs.Ytljkbpgcglomfaa.Pv
theorem w_reply_Bytes (r : TReply) (hr : r.bits.length ≤ 140737488351232 ∧ r.vals.length ≤ 140737488351232 ∧ r.data.length ≤ 140737488351232) :
    T Try.prog 31 [PV.f (eReply r)] 0 [] (Ret (PV.tup [pS 1 false enc8 (layE r),pI (goodR r)]) 0 []) := by
 refine t_fun tabOk (n := 113) (rs := [.tmp 2,.tmp 3]) Try.func31 rfl rfl rfl rfl (Nat.le_of_ble_eq_true rfl) ?_
 intro c hnt hk
 refine w_seq ?_
 refine w_R ?_
 refine qo hnt rfl (s_box rfl rfl ?_)
 refine qa hnt rfl rfl ?_
 refine qa hnt rfl rfl ?_
 refine r_set [(1,PV.ptr 0 0)] [(0,.obj (cReply r))] 1 ⟨rfl,trivial⟩ rfl rfl ?_
 refine r_end ?_
 refine q_then ?_
 refine w_seq ?_
 refine w_seq ?_
 refine w_R ?_
 refine qo hnt rfl (s_load_ptr tab_53 rfl rfl rfl (Nat.le_of_ble_eq_true rfl) ?_)
 refine qo hnt rfl (s_callF rfl rfl rfl (w_reply_Right r (by omega)) rfl ?_)
 refine qa hnt rfl rfl ?_
 refine r_end ?_
 refine q_then ?_
 refine w_seq ?_
 refine w_R ?_
 refine qm hnt rfl rfl ?_
 refine qo hnt rfl (s_neq rfl rfl ?_)
 refine r_end ?_
 refine q_then ?_
 refine w_if rfl (fun c1 => ?_) (fun c1 => ?_)
 ·
  have c1_ := c1
  try simp only [sB] at c1
  refine w_seq ?_
  refine w_R ?_
  refine qm hnt rfl rfl ?_
  refine qa hnt rfl rfl ?_
  refine qa hnt rfl rfl ?_
  refine r_end ?_
  refine q_then ?_
  refine w_le (s := 2) (y := pS 1 false enc8 []) rfl (le_nilS 1 false) ?_
  refine w_le (s := 2) (y := pS 1 false enc8 (layE r)) rfl (le_of_eq (congrArg (fun z => pS 1 false enc8 z) (show ([] : List UInt8) = (layE r) by (rw [layE_no (by first|assumption|simpa using c1_)]; done)))) ?_
  refine w_ret ?_
  refine q_then_ret ?_
  exact fin_plain (ret_tmp rfl (ret_tmp rfl ret_nil)) rfl rfl ⟨rfl,rfl,rfl⟩
 have c1_ := c1
 try simp only [sB] at c1
 refine w_skip ?_
 refine q_then ?_
 refine w_seq ?_
 refine w_seq ?_
 have hg0 : goodR r = 0 := by exact c1
 have hlr := layE_yes hg0
 have hgf := good_fn hg0
 refine w_R ?_
 refine qo hnt rfl (s_fa_ptr tab_53 rfl rfl tab_3 (by decide) rfl ?_)
 refine qo hnt rfl (s_load_ptr1 tab_3 rfl rfl rfl rfl rfl ?_)
 refine qo hnt rfl (s_neq rfl rfl ?_)
 refine r_end ?_
 refine q_then ?_
 refine w_if rfl (fun c2 => ?_) (fun c2 => ?_)
 ·
  have c2_ := c2
  try simp only [sB] at c2
  refine w_seq ?_
  refine w_R ?_
  refine qo hnt rfl (s_fa_ptr tab_53 rfl rfl tab_3 (by decide) rfl ?_)
  refine qo hnt rfl (s_load_ptr1 tab_3 rfl rfl rfl rfl rfl ?_)
  obtain ⟨fnn,hfn⟩ : ∃ n : Nat,r.fn = (n : Int) := ⟨r.fn.toNat,by omega⟩
  have hfo := or_128 hgf
  have hfo2 : fnn ||| 128 = fnn + 128 := by rw [hfn] at hfo; simpa using hfo
  refine r_eq (s := 16) (y := pN fnn) rfl (congrArg (fun z : Int => pI z) (show r.fn = ((fnn : Nat) : Int) by exact hfn)) ?_
  refine qo hnt rfl (s_orN (a := fnn) (b := 128) rfl rfl (by omega) (by omega) (by omega) ?_)
  refine qo hnt rfl (s_cv8N (a := fnn ||| 128) tab_3 tab_5 rfl rfl rfl (by omega) ?_)
  refine qo hnt rfl (s_fa_ptr tab_53 rfl rfl tab_3 (by decide) rfl ?_)
  refine qo hnt rfl (s_load_ptr1 tab_3 rfl rfl rfl rfl rfl ?_)
  refine qo hnt rfl (s_cv8 tab_3 tab_5 rfl rfl rfl ?_)
  refine qo hnt rfl (s_mkM (f := enc8) [UInt8.ofNat (fnn ||| 128),u8I r.code] tab_51 rfl tab_5 ⟨rfl,by decide⟩ (by decide) rfl rfl rfl rfl ?_)
  refine qa hnt rfl rfl ?_
  refine qa hnt rfl rfl ?_
  refine r_set [(2,PV.ref 1 0 none),(3,pI 0)] [(1,oB true 1 enc8 [UInt8.ofNat (fnn ||| 128),u8I r.code]),(0,.obj (cReply r))] 2 ⟨rfl,rfl,trivial⟩ rfl rfl ?_
  refine r_end ?_
  refine q_then ?_
  refine w_frzM (s := 2) (f := enc8) rfl rfl view_0 ?_
  refine w_le (s := 2) (y := pS 1 false enc8 (layE r)) rfl (le_of_eq (congrArg (fun z => pS 1 false enc8 z) (show ([UInt8.ofNat (fnn ||| 128),u8I r.code] : List UInt8) = (layE r) by (rw [hlr,lay_code (by first|assumption|simpa using c2_),hfn]; rfl)))) ?_
  refine w_le (s := 3) (y := pI (goodR r)) rfl (le_of_eq (congrArg (fun z : Int => pI z) (show 0 = (goodR r) by simp [*]))) ?_
  refine w_ret ?_
  refine q_then_ret ?_
  exact fin_plain (ret_tmp rfl (ret_tmp rfl ret_nil)) rfl rfl ⟨rfl,rfl,rfl⟩
 have c2_ := c2
 try simp only [sB] at c2
 refine w_skip ?_
 refine q_then ?_
 refine w_seq ?_
 have h0 : r.code = 0 := by exact c2
 have hsh : ShapeA r := by rcases goodR_zero hg0 with ⟨h,_⟩|⟨_,_,h⟩; exact absurd h0 h; exact h
 have hcf : hasF r.fn = true := by rcases goodR_zero hg0 with ⟨h,_⟩|⟨_,h,_⟩; exact absurd h0 h; exact h
 have hcf2 := hasF_of hcf
 have h5b := hsh.ob
 have h6v := hsh.ov
 have hlb := hsh.lb
 have hlv := hsh.lv
 have hld := hsh.ld
 refine w_R ?_
 refine qo hnt rfl (s_fa_ptr tab_53 rfl rfl tab_3 (by decide) rfl ?_)
 refine qo hnt rfl (s_load_ptr1 tab_3 rfl rfl rfl rfl rfl ?_)
 refine qo hnt rfl (s_cv8 tab_3 tab_5 rfl rfl rfl ?_)
 refine qo hnt rfl (s_mkM (f := enc8) [u8I r.fn] tab_51 rfl tab_5 ⟨rfl,by decide⟩ (by decide) rfl rfl rfl rfl ?_)
 refine qa hnt rfl rfl ?_
 refine r_set [(1,PV.ptr 0 0),(5,PV.ref 1 0 none)] [(1,oB true 1 enc8 [u8I r.fn]),(0,.obj (cReply r))] 2 ⟨rfl,rfl,trivial⟩ rfl rfl ?_
 refine r_end ?_
 refine q_then ?_
 refine w_seq ?_
 refine w_seq ?_
 refine w_R ?_
 refine qo hnt rfl (s_fa_ptr tab_53 rfl rfl tab_3 (by decide) rfl ?_)
 refine qo hnt rfl (s_load_ptr1 tab_3 rfl rfl rfl rfl rfl ?_)
 refine r_end ?_
 refine q_then ?_
 refine w_block ?_
 refine w_seq ?_
 refine w_seq ?_
 refine w_R ?_
 refine qo hnt rfl (s_eql rfl rfl ?_)
 refine qa hnt rfl rfl ?_
 refine r_end ?_
 refine q_then ?_
 refine w_if rfl (fun c3 => ?_) (fun c3 => ?_)
 ·
  have c3_ := c3
  try simp only [sB] at c3
  refine w_skip ?_
  refine q_then ?_
  refine w_if rfl (fun _ => ?_) (fun e => absurd (e.symm.trans c3_) (by decide))
  refine W_drawn tabOk mixed hnt [[],[0],[],[2],[2,3],[0,1,2,3,4],[0,1,2,3,4,5]] (by kernel_rfl) ?_
  refine d_op ?_
  refine x_run0 [(1,PV.ptr 0 0)] [] rfl rfl rfl rfl (s_fa_ptr tab_53 rfl rfl tab_3 (by decide) rfl ⟨rfl,rfl,rfl⟩) ?_
  refine d_op ?_
  refine xL [(32,PV.ptr 0 0)] [0] [(0,.obj (cReply r))] rfl rfl rfl rfl rfl (s_load_ptr1 tab_3 rfl rfl rfl rfl rfl ⟨rfl,rfl,rfl⟩) ⟨rfl,trivial⟩ rfl ?_
  refine d_op ?_
  refine x_run0 [(1,PV.ptr 0 0)] [] rfl rfl rfl rfl (s_fa_ptr tab_53 rfl rfl tab_42 (by decide) rfl ⟨rfl,rfl,rfl⟩) ?_
  refine d_op ?_
  refine xL [(34,PV.ptr 0 5)] [2] [(0,.obj (cReply r))] rfl rfl rfl rfl rfl (s_load_ptr1 tab_42 rfl rfl rfl rfl rfl ⟨rfl,rfl,rfl⟩) ⟨rfl,trivial⟩ rfl ?_
  refine d_op ?_
  refine xT [(35,pS 1 false encBo r.bits)] [2,3] [] [(2,oB true 1 enc8 (packL r.bits))] [(1,oB true 1 enc8 [u8I r.fn]),(0,.obj (cReply r))] rfl rfl rfl rfl rfl (s_callX (r2 := PV.ref 2 0 none) (nx1 := 3) (H2 := []) (H3 := [(2,oB true 1 enc8 (packL r.bits))]) [] [] rfl rfl rfl (handed_of (by decide) trivial) rfl rfl rfl rfl rfl rfl (w_octet_Pack r.bits false (by omega)) rfl (dist_of rfl) rfl rfl rfl rfl ⟨rfl,rfl,rfl⟩) rfl rfl ?_
  refine d_op ?_
  refine xT [(33,pI r.fn),(36,PV.ref 2 0 none)] [0,1,2,3,4] [(2,oB true 1 enc8 (packL r.bits))] [(3,oB true 1 enc8 (u8I r.fn :: rowX (packL r.bits))),(2,oB false 1 enc8 (packL r.bits))] [(1,oB true 1 enc8 [u8I r.fn]),(0,.obj (cReply r))] rfl rfl rfl rfl rfl (s_callX (r2 := PV.ref 3 0 none) (nx1 := 4) (H2 := [(2,oB false 1 enc8 (packL r.bits))]) (H3 := [(3,oB true 1 enc8 (u8I r.fn :: rowX (packL r.bits))),(2,oB false 1 enc8 (packL r.bits))]) [] [] rfl rfl rfl (handed_of (by decide) trivial) rfl rfl rfl rfl rfl rfl (w_reply_counted r.fn (packL r.bits) false (by (simp; omega))) rfl (dist_of rfl) rfl rfl rfl rfl ⟨rfl,rfl,rfl⟩) rfl rfl ?_
  refine d_op ?_
  refine x_run0 [(37,PV.ref 3 0 none)] [0,1,2,3,4,5] rfl rfl rfl rfl (s_assign rfl ⟨rfl,rfl,rfl⟩) ?_
  refine d_end ⟨by kernel_rfl, ?_⟩
  refine q_block ?_
  refine q_then ?_
  refine w_seq ?_
  refine w_R ?_
  refine qm hnt rfl rfl ?_
  refine qo hnt rfl (s_callX (r2 := pS 1 true enc8 (u8I r.fn :: rowX (packL r.bits))) (nx1 := 4) (H2 := [(3,oB false 1 enc8 (u8I r.fn :: rowX (packL r.bits))),(2,oB false 1 enc8 (packL r.bits)),(1,oB true 1 enc8 [u8I r.fn]),(0,.obj (cReply r))]) (H3 := [(3,oB false 1 enc8 (u8I r.fn :: rowX (packL r.bits))),(2,oB false 1 enc8 (packL r.bits)),(1,oB true 1 enc8 [u8I r.fn]),(0,.obj (cReply r))]) [] [] rfl rfl rfl (handed_of (by decide) trivial) rfl rfl rfl rfl rfl rfl (w_slices_Clip_byte_byte (u8I r.fn :: rowX (packL r.bits)) false) rfl (dist_of rfl) rfl rfl rfl rfl ?_)
  refine qa hnt rfl rfl ?_
  refine qa hnt rfl rfl ?_
  refine r_set [(2,pS 1 true enc8 (u8I r.fn :: rowX (packL r.bits))),(3,pI 0)] [(3,oB false 1 enc8 (u8I r.fn :: rowX (packL r.bits))),(2,oB false 1 enc8 (packL r.bits)),(1,oB true 1 enc8 [u8I r.fn]),(0,.obj (cReply r))] 4 ⟨rfl,rfl,trivial⟩ rfl rfl ?_
  refine r_end ?_
  refine q_then ?_
  refine w_le (s := 2) (y := pS 1 false enc8 (u8I r.fn :: rowX (packL r.bits))) rfl (le_loose) ?_
  refine w_le (s := 2) (y := pS 1 false enc8 (layE r)) rfl (le_of_eq (congrArg (fun z => pS 1 false enc8 z) (show (u8I r.fn :: rowX (packL r.bits)) = (layE r) by (rw [hlr,lay_fn h0,layT_1 (by omega)]; done)))) ?_
  refine w_le (s := 3) (y := pI (goodR r)) rfl (le_of_eq (congrArg (fun z : Int => pI z) (show 0 = (goodR r) by simp [*]))) ?_
  refine w_ret ?_
  exact fin_plain (ret_tmp rfl (ret_tmp rfl ret_nil)) rfl rfl ⟨rfl,rfl,rfl⟩
 have c3_ := c3
 try simp only [sB] at c3
 refine w_R ?_
 refine qo hnt rfl (s_eql rfl rfl ?_)
 refine qa hnt rfl rfl ?_
 refine r_end ?_
 refine q_then ?_
 refine w_if rfl (fun c4 => ?_) (fun c4 => ?_)
 ·
  have c4_ := c4
  try simp only [sB] at c4
  refine W_drawn tabOk mixed hnt [[],[0],[],[2],[2,3],[0,1,2,3,4],[0,1,2,3,4,5]] (by kernel_rfl) ?_
  refine d_op ?_
  refine x_run0 [(1,PV.ptr 0 0)] [] rfl rfl rfl rfl (s_fa_ptr tab_53 rfl rfl tab_3 (by decide) rfl ⟨rfl,rfl,rfl⟩) ?_
  refine d_op ?_
  refine xL [(32,PV.ptr 0 0)] [0] [(0,.obj (cReply r))] rfl rfl rfl rfl rfl (s_load_ptr1 tab_3 rfl rfl rfl rfl rfl ⟨rfl,rfl,rfl⟩) ⟨rfl,trivial⟩ rfl ?_
  refine d_op ?_
  refine x_run0 [(1,PV.ptr 0 0)] [] rfl rfl rfl rfl (s_fa_ptr tab_53 rfl rfl tab_42 (by decide) rfl ⟨rfl,rfl,rfl⟩) ?_
  refine d_op ?_
  refine xL [(34,PV.ptr 0 5)] [2] [(0,.obj (cReply r))] rfl rfl rfl rfl rfl (s_load_ptr1 tab_42 rfl rfl rfl rfl rfl ⟨rfl,rfl,rfl⟩) ⟨rfl,trivial⟩ rfl ?_
  refine d_op ?_
  refine xT [(35,pS 1 false encBo r.bits)] [2,3] [] [(2,oB true 1 enc8 (packL r.bits))] [(1,oB true 1 enc8 [u8I r.fn]),(0,.obj (cReply r))] rfl rfl rfl rfl rfl (s_callX (r2 := PV.ref 2 0 none) (nx1 := 3) (H2 := []) (H3 := [(2,oB true 1 enc8 (packL r.bits))]) [] [] rfl rfl rfl (handed_of (by decide) trivial) rfl rfl rfl rfl rfl rfl (w_octet_Pack r.bits false (by omega)) rfl (dist_of rfl) rfl rfl rfl rfl ⟨rfl,rfl,rfl⟩) rfl rfl ?_
  refine d_op ?_
  refine xT [(33,pI r.fn),(36,PV.ref 2 0 none)] [0,1,2,3,4] [(2,oB true 1 enc8 (packL r.bits))] [(3,oB true 1 enc8 (u8I r.fn :: rowX (packL r.bits))),(2,oB false 1 enc8 (packL r.bits))] [(1,oB true 1 enc8 [u8I r.fn]),(0,.obj (cReply r))] rfl rfl rfl rfl rfl (s_callX (r2 := PV.ref 3 0 none) (nx1 := 4) (H2 := [(2,oB false 1 enc8 (packL r.bits))]) (H3 := [(3,oB true 1 enc8 (u8I r.fn :: rowX (packL r.bits))),(2,oB false 1 enc8 (packL r.bits))]) [] [] rfl rfl rfl (handed_of (by decide) trivial) rfl rfl rfl rfl rfl rfl (w_reply_counted r.fn (packL r.bits) false (by (simp; omega))) rfl (dist_of rfl) rfl rfl rfl rfl ⟨rfl,rfl,rfl⟩) rfl rfl ?_
  refine d_op ?_
  refine x_run0 [(37,PV.ref 3 0 none)] [0,1,2,3,4,5] rfl rfl rfl rfl (s_assign rfl ⟨rfl,rfl,rfl⟩) ?_
  refine d_end ⟨by kernel_rfl, ?_⟩
  refine q_block ?_
  refine q_then ?_
  refine w_seq ?_
  refine w_R ?_
  refine qm hnt rfl rfl ?_
  refine qo hnt rfl (s_callX (r2 := pS 1 true enc8 (u8I r.fn :: rowX (packL r.bits))) (nx1 := 4) (H2 := [(3,oB false 1 enc8 (u8I r.fn :: rowX (packL r.bits))),(2,oB false 1 enc8 (packL r.bits)),(1,oB true 1 enc8 [u8I r.fn]),(0,.obj (cReply r))]) (H3 := [(3,oB false 1 enc8 (u8I r.fn :: rowX (packL r.bits))),(2,oB false 1 enc8 (packL r.bits)),(1,oB true 1 enc8 [u8I r.fn]),(0,.obj (cReply r))]) [] [] rfl rfl rfl (handed_of (by decide) trivial) rfl rfl rfl rfl rfl rfl (w_slices_Clip_byte_byte (u8I r.fn :: rowX (packL r.bits)) false) rfl (dist_of rfl) rfl rfl rfl rfl ?_)
  refine qa hnt rfl rfl ?_
  refine qa hnt rfl rfl ?_
  refine r_set [(2,pS 1 true enc8 (u8I r.fn :: rowX (packL r.bits))),(3,pI 0)] [(3,oB false 1 enc8 (u8I r.fn :: rowX (packL r.bits))),(2,oB false 1 enc8 (packL r.bits)),(1,oB true 1 enc8 [u8I r.fn]),(0,.obj (cReply r))] 4 ⟨rfl,rfl,trivial⟩ rfl rfl ?_
  refine r_end ?_
  refine q_then ?_
  refine w_le (s := 2) (y := pS 1 false enc8 (u8I r.fn :: rowX (packL r.bits))) rfl (le_loose) ?_
  refine w_le (s := 2) (y := pS 1 false enc8 (layE r)) rfl (le_of_eq (congrArg (fun z => pS 1 false enc8 z) (show (u8I r.fn :: rowX (packL r.bits)) = (layE r) by (rw [hlr,lay_fn h0,layT_1 (by omega)]; done)))) ?_
  refine w_le (s := 3) (y := pI (goodR r)) rfl (le_of_eq (congrArg (fun z : Int => pI z) (show 0 = (goodR r) by simp [*]))) ?_
  refine w_ret ?_
  exact fin_plain (ret_tmp rfl (ret_tmp rfl ret_nil)) rfl rfl ⟨rfl,rfl,rfl⟩
 have c4_ := c4
 try simp only [sB] at c4
 refine w_seq ?_
 refine w_seq ?_
 refine w_R ?_
 refine qo hnt rfl (s_eql rfl rfl ?_)
 refine qa hnt rfl rfl ?_
 refine r_end ?_
 refine q_then ?_
 refine w_if rfl (fun c5 => ?_) (fun c5 => ?_)
 ·
  have c5_ := c5
  try simp only [sB] at c5
  refine w_skip ?_
  refine q_then ?_
  refine w_if rfl (fun _ => ?_) (fun e => absurd (e.symm.trans c5_) (by decide))
  refine W_drawn tabOk mixed hnt [[],[0],[],[2],[2,3],[0,1,2,3,4],[0,1,2,3,4,5]] (by kernel_rfl) ?_
  refine d_op ?_
  refine x_run0 [(1,PV.ptr 0 0)] [] rfl rfl rfl rfl (s_fa_ptr tab_53 rfl rfl tab_3 (by decide) rfl ⟨rfl,rfl,rfl⟩) ?_
  refine d_op ?_
  refine xL [(42,PV.ptr 0 0)] [0] [(0,.obj (cReply r))] rfl rfl rfl rfl rfl (s_load_ptr1 tab_3 rfl rfl rfl rfl rfl ⟨rfl,rfl,rfl⟩) ⟨rfl,trivial⟩ rfl ?_
  refine d_op ?_
  refine x_run0 [(1,PV.ptr 0 0)] [] rfl rfl rfl rfl (s_fa_ptr tab_53 rfl rfl tab_43 (by decide) rfl ⟨rfl,rfl,rfl⟩) ?_
  refine d_op ?_
  refine xL [(44,PV.ptr 0 6)] [2] [(0,.obj (cReply r))] rfl rfl rfl rfl rfl (s_load_ptr1 tab_43 rfl rfl rfl rfl rfl ⟨rfl,rfl,rfl⟩) ⟨rfl,trivial⟩ rfl ?_
  refine d_op ?_
  refine xT [(45,pS 1 false enc16 r.vals)] [2,3] [] [(2,oB true 1 enc8 (bytesL r.vals))] [(1,oB true 1 enc8 [u8I r.fn]),(0,.obj (cReply r))] rfl rfl rfl rfl rfl (s_callX (r2 := PV.ref 2 0 none) (nx1 := 3) (H2 := []) (H3 := [(2,oB true 1 enc8 (bytesL r.vals))]) [] [] rfl rfl rfl (handed_of (by decide) trivial) rfl rfl rfl rfl rfl rfl (w_octet_Bytes r.vals false (by omega)) rfl (dist_of rfl) rfl rfl rfl rfl ⟨rfl,rfl,rfl⟩) rfl rfl ?_
  refine d_op ?_
  refine xT [(43,pI r.fn),(46,PV.ref 2 0 none)] [0,1,2,3,4] [(2,oB true 1 enc8 (bytesL r.vals))] [(3,oB true 1 enc8 (u8I r.fn :: rowX (bytesL r.vals))),(2,oB false 1 enc8 (bytesL r.vals))] [(1,oB true 1 enc8 [u8I r.fn]),(0,.obj (cReply r))] rfl rfl rfl rfl rfl (s_callX (r2 := PV.ref 3 0 none) (nx1 := 4) (H2 := [(2,oB false 1 enc8 (bytesL r.vals))]) (H3 := [(3,oB true 1 enc8 (u8I r.fn :: rowX (bytesL r.vals))),(2,oB false 1 enc8 (bytesL r.vals))]) [] [] rfl rfl rfl (handed_of (by decide) trivial) rfl rfl rfl rfl rfl rfl (w_reply_counted r.fn (bytesL r.vals) false (by (simp; omega))) rfl (dist_of rfl) rfl rfl rfl rfl ⟨rfl,rfl,rfl⟩) rfl rfl ?_
  refine d_op ?_
  refine x_run0 [(47,PV.ref 3 0 none)] [0,1,2,3,4,5] rfl rfl rfl rfl (s_assign rfl ⟨rfl,rfl,rfl⟩) ?_
  refine d_end ⟨by kernel_rfl, ?_⟩
  refine q_block ?_
  refine q_then ?_
  refine w_seq ?_
  refine w_R ?_
  refine qm hnt rfl rfl ?_
  refine qo hnt rfl (s_callX (r2 := pS 1 true enc8 (u8I r.fn :: rowX (bytesL r.vals))) (nx1 := 4) (H2 := [(3,oB false 1 enc8 (u8I r.fn :: rowX (bytesL r.vals))),(2,oB false 1 enc8 (bytesL r.vals)),(1,oB true 1 enc8 [u8I r.fn]),(0,.obj (cReply r))]) (H3 := [(3,oB false 1 enc8 (u8I r.fn :: rowX (bytesL r.vals))),(2,oB false 1 enc8 (bytesL r.vals)),(1,oB true 1 enc8 [u8I r.fn]),(0,.obj (cReply r))]) [] [] rfl rfl rfl (handed_of (by decide) trivial) rfl rfl rfl rfl rfl rfl (w_slices_Clip_byte_byte (u8I r.fn :: rowX (bytesL r.vals)) false) rfl (dist_of rfl) rfl rfl rfl rfl ?_)
  refine qa hnt rfl rfl ?_
  refine qa hnt rfl rfl ?_
  refine r_set [(2,pS 1 true enc8 (u8I r.fn :: rowX (bytesL r.vals))),(3,pI 0)] [(3,oB false 1 enc8 (u8I r.fn :: rowX (bytesL r.vals))),(2,oB false 1 enc8 (bytesL r.vals)),(1,oB true 1 enc8 [u8I r.fn]),(0,.obj (cReply r))] 4 ⟨rfl,rfl,trivial⟩ rfl rfl ?_
  refine r_end ?_
  refine q_then ?_
  refine w_le (s := 2) (y := pS 1 false enc8 (u8I r.fn :: rowX (bytesL r.vals))) rfl (le_loose) ?_
  refine w_le (s := 2) (y := pS 1 false enc8 (layE r)) rfl (le_of_eq (congrArg (fun z => pS 1 false enc8 z) (show (u8I r.fn :: rowX (bytesL r.vals)) = (layE r) by (rw [hlr,lay_fn h0,layT_3 (by omega)]; done)))) ?_
  refine w_le (s := 3) (y := pI (goodR r)) rfl (le_of_eq (congrArg (fun z : Int => pI z) (show 0 = (goodR r) by simp [*]))) ?_
  refine w_ret ?_
  exact fin_plain (ret_tmp rfl (ret_tmp rfl ret_nil)) rfl rfl ⟨rfl,rfl,rfl⟩
 have c5_ := c5
 try simp only [sB] at c5
 refine w_seq ?_
 refine w_R ?_
 refine qo hnt rfl (s_eql rfl rfl ?_)
 refine qa hnt rfl rfl ?_
 refine r_end ?_
 refine q_then ?_
 refine w_if rfl (fun c6 => ?_) (fun c6 => ?_)
 ·
  have c6_ := c6
  try simp only [sB] at c6
  refine w_skip ?_
  refine q_then ?_
  refine w_if rfl (fun _ => ?_) (fun e => absurd (e.symm.trans c6_) (by decide))
  refine W_drawn tabOk mixed hnt [[],[0],[],[2],[2,3],[0,1,2,3,4],[0,1,2,3,4,5]] (by kernel_rfl) ?_
  refine d_op ?_
  refine x_run0 [(1,PV.ptr 0 0)] [] rfl rfl rfl rfl (s_fa_ptr tab_53 rfl rfl tab_3 (by decide) rfl ⟨rfl,rfl,rfl⟩) ?_
  refine d_op ?_
  refine xL [(42,PV.ptr 0 0)] [0] [(0,.obj (cReply r))] rfl rfl rfl rfl rfl (s_load_ptr1 tab_3 rfl rfl rfl rfl rfl ⟨rfl,rfl,rfl⟩) ⟨rfl,trivial⟩ rfl ?_
  refine d_op ?_
  refine x_run0 [(1,PV.ptr 0 0)] [] rfl rfl rfl rfl (s_fa_ptr tab_53 rfl rfl tab_43 (by decide) rfl ⟨rfl,rfl,rfl⟩) ?_
  refine d_op ?_
  refine xL [(44,PV.ptr 0 6)] [2] [(0,.obj (cReply r))] rfl rfl rfl rfl rfl (s_load_ptr1 tab_43 rfl rfl rfl rfl rfl ⟨rfl,rfl,rfl⟩) ⟨rfl,trivial⟩ rfl ?_
  refine d_op ?_
  refine xT [(45,pS 1 false enc16 r.vals)] [2,3] [] [(2,oB true 1 enc8 (bytesL r.vals))] [(1,oB true 1 enc8 [u8I r.fn]),(0,.obj (cReply r))] rfl rfl rfl rfl rfl (s_callX (r2 := PV.ref 2 0 none) (nx1 := 3) (H2 := []) (H3 := [(2,oB true 1 enc8 (bytesL r.vals))]) [] [] rfl rfl rfl (handed_of (by decide) trivial) rfl rfl rfl rfl rfl rfl (w_octet_Bytes r.vals false (by omega)) rfl (dist_of rfl) rfl rfl rfl rfl ⟨rfl,rfl,rfl⟩) rfl rfl ?_
  refine d_op ?_
  refine xT [(43,pI r.fn),(46,PV.ref 2 0 none)] [0,1,2,3,4] [(2,oB true 1 enc8 (bytesL r.vals))] [(3,oB true 1 enc8 (u8I r.fn :: rowX (bytesL r.vals))),(2,oB false 1 enc8 (bytesL r.vals))] [(1,oB true 1 enc8 [u8I r.fn]),(0,.obj (cReply r))] rfl rfl rfl rfl rfl (s_callX (r2 := PV.ref 3 0 none) (nx1 := 4) (H2 := [(2,oB false 1 enc8 (bytesL r.vals))]) (H3 := [(3,oB true 1 enc8 (u8I r.fn :: rowX (bytesL r.vals))),(2,oB false 1 enc8 (bytesL r.vals))]) [] [] rfl rfl rfl (handed_of (by decide) trivial) rfl rfl rfl rfl rfl rfl (w_reply_counted r.fn (bytesL r.vals) false (by (simp; omega))) rfl (dist_of rfl) rfl rfl rfl rfl ⟨rfl,rfl,rfl⟩) rfl rfl ?_
  refine d_op ?_
  refine x_run0 [(47,PV.ref 3 0 none)] [0,1,2,3,4,5] rfl rfl rfl rfl (s_assign rfl ⟨rfl,rfl,rfl⟩) ?_
  refine d_end ⟨by kernel_rfl, ?_⟩
  refine q_block ?_
  refine q_then ?_
  refine w_seq ?_
  refine w_R ?_
  refine qm hnt rfl rfl ?_
  refine qo hnt rfl (s_callX (r2 := pS 1 true enc8 (u8I r.fn :: rowX (bytesL r.vals))) (nx1 := 4) (H2 := [(3,oB false 1 enc8 (u8I r.fn :: rowX (bytesL r.vals))),(2,oB false 1 enc8 (bytesL r.vals)),(1,oB true 1 enc8 [u8I r.fn]),(0,.obj (cReply r))]) (H3 := [(3,oB false 1 enc8 (u8I r.fn :: rowX (bytesL r.vals))),(2,oB false 1 enc8 (bytesL r.vals)),(1,oB true 1 enc8 [u8I r.fn]),(0,.obj (cReply r))]) [] [] rfl rfl rfl (handed_of (by decide) trivial) rfl rfl rfl rfl rfl rfl (w_slices_Clip_byte_byte (u8I r.fn :: rowX (bytesL r.vals)) false) rfl (dist_of rfl) rfl rfl rfl rfl ?_)
  refine qa hnt rfl rfl ?_
  refine qa hnt rfl rfl ?_
  refine r_set [(2,pS 1 true enc8 (u8I r.fn :: rowX (bytesL r.vals))),(3,pI 0)] [(3,oB false 1 enc8 (u8I r.fn :: rowX (bytesL r.vals))),(2,oB false 1 enc8 (bytesL r.vals)),(1,oB true 1 enc8 [u8I r.fn]),(0,.obj (cReply r))] 4 ⟨rfl,rfl,trivial⟩ rfl rfl ?_
  refine r_end ?_
  refine q_then ?_
  refine w_le (s := 2) (y := pS 1 false enc8 (u8I r.fn :: rowX (bytesL r.vals))) rfl (le_loose) ?_
  refine w_le (s := 2) (y := pS 1 false enc8 (layE r)) rfl (le_of_eq (congrArg (fun z => pS 1 false enc8 z) (show (u8I r.fn :: rowX (bytesL r.vals)) = (layE r) by (rw [hlr,lay_fn h0,layT_3 (by omega)]; done)))) ?_
  refine w_le (s := 3) (y := pI (goodR r)) rfl (le_of_eq (congrArg (fun z : Int => pI z) (show 0 = (goodR r) by simp [*]))) ?_
  refine w_ret ?_
  exact fin_plain (ret_tmp rfl (ret_tmp rfl ret_nil)) rfl rfl ⟨rfl,rfl,rfl⟩
 have c6_ := c6
 try simp only [sB] at c6
 refine w_R ?_
 refine qo hnt rfl (s_eql rfl rfl ?_)
 refine qa hnt rfl rfl ?_
 refine r_end ?_
 refine q_then ?_
 refine w_if rfl (fun c7 => ?_) (fun c7 => ?_)
 ·
  have c7_ := c7
  try simp only [sB] at c7
  refine W_drawn tabOk mixed hnt [[],[0],[],[2],[2,3],[0,1,2,3,4],[0,1,2,3,4,5]] (by kernel_rfl) ?_
  refine d_op ?_
  refine x_run0 [(1,PV.ptr 0 0)] [] rfl rfl rfl rfl (s_fa_ptr tab_53 rfl rfl tab_3 (by decide) rfl ⟨rfl,rfl,rfl⟩) ?_
  refine d_op ?_
  refine xL [(42,PV.ptr 0 0)] [0] [(0,.obj (cReply r))] rfl rfl rfl rfl rfl (s_load_ptr1 tab_3 rfl rfl rfl rfl rfl ⟨rfl,rfl,rfl⟩) ⟨rfl,trivial⟩ rfl ?_
  refine d_op ?_
  refine x_run0 [(1,PV.ptr 0 0)] [] rfl rfl rfl rfl (s_fa_ptr tab_53 rfl rfl tab_43 (by decide) rfl ⟨rfl,rfl,rfl⟩) ?_
  refine d_op ?_
  refine xL [(44,PV.ptr 0 6)] [2] [(0,.obj (cReply r))] rfl rfl rfl rfl rfl (s_load_ptr1 tab_43 rfl rfl rfl rfl rfl ⟨rfl,rfl,rfl⟩) ⟨rfl,trivial⟩ rfl ?_
  refine d_op ?_
  refine xT [(45,pS 1 false enc16 r.vals)] [2,3] [] [(2,oB true 1 enc8 (bytesL r.vals))] [(1,oB true 1 enc8 [u8I r.fn]),(0,.obj (cReply r))] rfl rfl rfl rfl rfl (s_callX (r2 := PV.ref 2 0 none) (nx1 := 3) (H2 := []) (H3 := [(2,oB true 1 enc8 (bytesL r.vals))]) [] [] rfl rfl rfl (handed_of (by decide) trivial) rfl rfl rfl rfl rfl rfl (w_octet_Bytes r.vals false (by omega)) rfl (dist_of rfl) rfl rfl rfl rfl ⟨rfl,rfl,rfl⟩) rfl rfl ?_
  refine d_op ?_
  refine xT [(43,pI r.fn),(46,PV.ref 2 0 none)] [0,1,2,3,4] [(2,oB true 1 enc8 (bytesL r.vals))] [(3,oB true 1 enc8 (u8I r.fn :: rowX (bytesL r.vals))),(2,oB false 1 enc8 (bytesL r.vals))] [(1,oB true 1 enc8 [u8I r.fn]),(0,.obj (cReply r))] rfl rfl rfl rfl rfl (s_callX (r2 := PV.ref 3 0 none) (nx1 := 4) (H2 := [(2,oB false 1 enc8 (bytesL r.vals))]) (H3 := [(3,oB true 1 enc8 (u8I r.fn :: rowX (bytesL r.vals))),(2,oB false 1 enc8 (bytesL r.vals))]) [] [] rfl rfl rfl (handed_of (by decide) trivial) rfl rfl rfl rfl rfl rfl (w_reply_counted r.fn (bytesL r.vals) false (by (simp; omega))) rfl (dist_of rfl) rfl rfl rfl rfl ⟨rfl,rfl,rfl⟩) rfl rfl ?_
  refine d_op ?_
  refine x_run0 [(47,PV.ref 3 0 none)] [0,1,2,3,4,5] rfl rfl rfl rfl (s_assign rfl ⟨rfl,rfl,rfl⟩) ?_
  refine d_end ⟨by kernel_rfl, ?_⟩
  refine q_block ?_
  refine q_then ?_
  refine w_seq ?_
  refine w_R ?_
  refine qm hnt rfl rfl ?_
  refine qo hnt rfl (s_callX (r2 := pS 1 true enc8 (u8I r.fn :: rowX (bytesL r.vals))) (nx1 := 4) (H2 := [(3,oB false 1 enc8 (u8I r.fn :: rowX (bytesL r.vals))),(2,oB false 1 enc8 (bytesL r.vals)),(1,oB true 1 enc8 [u8I r.fn]),(0,.obj (cReply r))]) (H3 := [(3,oB false 1 enc8 (u8I r.fn :: rowX (bytesL r.vals))),(2,oB false 1 enc8 (bytesL r.vals)),(1,oB true 1 enc8 [u8I r.fn]),(0,.obj (cReply r))]) [] [] rfl rfl rfl (handed_of (by decide) trivial) rfl rfl rfl rfl rfl rfl (w_slices_Clip_byte_byte (u8I r.fn :: rowX (bytesL r.vals)) false) rfl (dist_of rfl) rfl rfl rfl rfl ?_)
  refine qa hnt rfl rfl ?_
  refine qa hnt rfl rfl ?_
  refine r_set [(2,pS 1 true enc8 (u8I r.fn :: rowX (bytesL r.vals))),(3,pI 0)] [(3,oB false 1 enc8 (u8I r.fn :: rowX (bytesL r.vals))),(2,oB false 1 enc8 (bytesL r.vals)),(1,oB true 1 enc8 [u8I r.fn]),(0,.obj (cReply r))] 4 ⟨rfl,rfl,trivial⟩ rfl rfl ?_
  refine r_end ?_
  refine q_then ?_
  refine w_le (s := 2) (y := pS 1 false enc8 (u8I r.fn :: rowX (bytesL r.vals))) rfl (le_loose) ?_
  refine w_le (s := 2) (y := pS 1 false enc8 (layE r)) rfl (le_of_eq (congrArg (fun z => pS 1 false enc8 z) (show (u8I r.fn :: rowX (bytesL r.vals)) = (layE r) by (rw [hlr,lay_fn h0,layT_3 (by omega)]; done)))) ?_
  refine w_le (s := 3) (y := pI (goodR r)) rfl (le_of_eq (congrArg (fun z : Int => pI z) (show 0 = (goodR r) by simp [*]))) ?_
  refine w_ret ?_
  exact fin_plain (ret_tmp rfl (ret_tmp rfl ret_nil)) rfl rfl ⟨rfl,rfl,rfl⟩
 have c7_ := c7
 try simp only [sB] at c7
 refine w_seq ?_
 refine w_R ?_
 refine qo hnt rfl (s_eql rfl rfl ?_)
 refine qa hnt rfl rfl ?_
 refine r_end ?_
 refine q_then ?_
 refine w_if rfl (fun c8 => ?_) (fun c8 => ?_)
 ·
  have c8_ := c8
  try simp only [sB] at c8
  refine w_seq ?_
  have hb1 := h5b (by omega)
  refine w_R ?_
  refine qa hnt rfl rfl ?_
  refine r_end ?_
  refine q_then ?_
  refine w_seq ?_
  refine w_seq ?_
  refine w_R ?_
  refine qo hnt rfl (s_fa_ptr tab_53 rfl rfl tab_42 (by decide) rfl ?_)
  refine qo hnt rfl (s_load_ptr1 tab_42 rfl rfl rfl rfl rfl ?_)
  obtain ⟨e1,he1⟩ := get_of_lt r.bits (i := 0) (by omega)
  refine qo hnt rfl (s_iaM (q := 0) (b := e1) (f := encBo) tab_42 rfl tab_4 rfl rfl (by omega) rfl he1 ?_)
  refine qo hnt rfl (s_load_ro1 tab_4 rfl rfl rfl rfl ?_)
  refine r_end ?_
  refine q_then ?_
  refine w_if rfl (fun c9 => ?_) (fun c9 => ?_)
  ·
   have c9_ := c9
   try simp only [sB] at c9
   refine w_R ?_
   refine qa hnt rfl rfl ?_
   refine r_end ?_
   refine q_then ?_
   refine w_R ?_
   refine qm hnt rfl rfl ?_
   refine qo hnt rfl (s_fa_ptr tab_53 rfl rfl tab_3 (by decide) rfl ?_)
   refine qo hnt rfl (s_load_ptr1 tab_3 rfl rfl rfl rfl rfl ?_)
   refine qo hnt rfl (s_callX (r2 := PV.ref 2 0 none) (nx1 := 3) (H2 := [(1,oB false 1 enc8 [u8I r.fn]),(0,.obj (cReply r))]) (H3 := [(2,oB true 1 enc8 ([u8I r.fn] ++ put2 r.at_)),(1,oB false 1 enc8 [u8I r.fn]),(0,.obj (cReply r))]) [] [] rfl rfl rfl (handed_of (by decide) trivial) rfl rfl rfl rfl rfl rfl (w_octet_Put [u8I r.fn] false r.at_ (by (simp; done))) rfl (dist_of rfl) rfl rfl rfl rfl ?_)
   refine qm hnt rfl rfl ?_
   refine qo hnt rfl (s_callX (r2 := PV.ref 3 0 none) (nx1 := 4) (H2 := [(2,oB false 1 enc8 ([u8I r.fn] ++ put2 r.at_)),(1,oB false 1 enc8 [u8I r.fn]),(0,.obj (cReply r))]) (H3 := [(3,oB true 1 enc8 (([u8I r.fn] ++ put2 r.at_) ++ put2 65280)),(2,oB false 1 enc8 ([u8I r.fn] ++ put2 r.at_)),(1,oB false 1 enc8 [u8I r.fn]),(0,.obj (cReply r))]) [] [] rfl rfl rfl (handed_of (by decide) trivial) rfl rfl rfl rfl rfl rfl (w_octet_Put ([u8I r.fn] ++ put2 r.at_) false 65280 (by (simp; done))) rfl (dist_of rfl) rfl rfl rfl rfl ?_)
   refine qa hnt rfl rfl ?_
   refine r_set [(5,PV.ref 3 0 none)] [(3,oB true 1 enc8 (([u8I r.fn] ++ put2 r.at_) ++ put2 65280)),(2,oB false 1 enc8 ([u8I r.fn] ++ put2 r.at_)),(1,oB false 1 enc8 [u8I r.fn]),(0,.obj (cReply r))] 4 ⟨rfl,trivial⟩ rfl rfl ?_
   refine r_end ?_
   refine q_block ?_
   refine q_then ?_
   refine w_seq ?_
   refine w_R ?_
   refine qm hnt rfl rfl ?_
   refine qo hnt rfl (s_callX (r2 := pS 1 true enc8 (([u8I r.fn] ++ put2 r.at_) ++ put2 65280)) (nx1 := 4) (H2 := [(3,oB false 1 enc8 (([u8I r.fn] ++ put2 r.at_) ++ put2 65280)),(2,oB false 1 enc8 ([u8I r.fn] ++ put2 r.at_)),(1,oB false 1 enc8 [u8I r.fn]),(0,.obj (cReply r))]) (H3 := [(3,oB false 1 enc8 (([u8I r.fn] ++ put2 r.at_) ++ put2 65280)),(2,oB false 1 enc8 ([u8I r.fn] ++ put2 r.at_)),(1,oB false 1 enc8 [u8I r.fn]),(0,.obj (cReply r))]) [] [] rfl rfl rfl (handed_of (by decide) trivial) rfl rfl rfl rfl rfl rfl (w_slices_Clip_byte_byte (([u8I r.fn] ++ put2 r.at_) ++ put2 65280) false) rfl (dist_of rfl) rfl rfl rfl rfl ?_)
   refine qa hnt rfl rfl ?_
   refine qa hnt rfl rfl ?_
   refine r_set [(2,pS 1 true enc8 (([u8I r.fn] ++ put2 r.at_) ++ put2 65280)),(3,pI 0)] [(3,oB false 1 enc8 (([u8I r.fn] ++ put2 r.at_) ++ put2 65280)),(2,oB false 1 enc8 ([u8I r.fn] ++ put2 r.at_)),(1,oB false 1 enc8 [u8I r.fn]),(0,.obj (cReply r))] 4 ⟨rfl,rfl,trivial⟩ rfl rfl ?_
   refine r_end ?_
   refine q_then ?_
   refine w_le (s := 2) (y := pS 1 false enc8 (([u8I r.fn] ++ put2 r.at_) ++ put2 65280)) rfl (le_loose) ?_
   refine w_le (s := 2) (y := pS 1 false enc8 (layE r)) rfl (le_of_eq (congrArg (fun z => pS 1 false enc8 z) (show (([u8I r.fn] ++ put2 r.at_) ++ put2 65280) = (layE r) by (rw [hlr,lay_fn h0,layT_5 (by omega) he1]; simp [*]; done)))) ?_
   refine w_le (s := 3) (y := pI (goodR r)) rfl (le_of_eq (congrArg (fun z : Int => pI z) (show 0 = (goodR r) by simp [*]))) ?_
   refine w_ret ?_
   exact fin_plain (ret_tmp rfl (ret_tmp rfl ret_nil)) rfl rfl ⟨rfl,rfl,rfl⟩
  have c9_ := c9
  try simp only [sB] at c9
  refine w_skip ?_
  refine q_then ?_
  refine w_R ?_
  refine qm hnt rfl rfl ?_
  refine qo hnt rfl (s_fa_ptr tab_53 rfl rfl tab_3 (by decide) rfl ?_)
  refine qo hnt rfl (s_load_ptr1 tab_3 rfl rfl rfl rfl rfl ?_)
  refine qo hnt rfl (s_callX (r2 := PV.ref 2 0 none) (nx1 := 3) (H2 := [(1,oB false 1 enc8 [u8I r.fn]),(0,.obj (cReply r))]) (H3 := [(2,oB true 1 enc8 ([u8I r.fn] ++ put2 r.at_)),(1,oB false 1 enc8 [u8I r.fn]),(0,.obj (cReply r))]) [] [] rfl rfl rfl (handed_of (by decide) trivial) rfl rfl rfl rfl rfl rfl (w_octet_Put [u8I r.fn] false r.at_ (by (simp; done))) rfl (dist_of rfl) rfl rfl rfl rfl ?_)
  refine qm hnt rfl rfl ?_
  refine qo hnt rfl (s_callX (r2 := PV.ref 3 0 none) (nx1 := 4) (H2 := [(2,oB false 1 enc8 ([u8I r.fn] ++ put2 r.at_)),(1,oB false 1 enc8 [u8I r.fn]),(0,.obj (cReply r))]) (H3 := [(3,oB true 1 enc8 (([u8I r.fn] ++ put2 r.at_) ++ put2 0)),(2,oB false 1 enc8 ([u8I r.fn] ++ put2 r.at_)),(1,oB false 1 enc8 [u8I r.fn]),(0,.obj (cReply r))]) [] [] rfl rfl rfl (handed_of (by decide) trivial) rfl rfl rfl rfl rfl rfl (w_octet_Put ([u8I r.fn] ++ put2 r.at_) false 0 (by (simp; done))) rfl (dist_of rfl) rfl rfl rfl rfl ?_)
  refine qa hnt rfl rfl ?_
  refine r_set [(5,PV.ref 3 0 none)] [(3,oB true 1 enc8 (([u8I r.fn] ++ put2 r.at_) ++ put2 0)),(2,oB false 1 enc8 ([u8I r.fn] ++ put2 r.at_)),(1,oB false 1 enc8 [u8I r.fn]),(0,.obj (cReply r))] 4 ⟨rfl,trivial⟩ rfl rfl ?_
  refine r_end ?_
  refine q_block ?_
  refine q_then ?_
  refine w_seq ?_
  refine w_R ?_
  refine qm hnt rfl rfl ?_
  refine qo hnt rfl (s_callX (r2 := pS 1 true enc8 (([u8I r.fn] ++ put2 r.at_) ++ put2 0)) (nx1 := 4) (H2 := [(3,oB false 1 enc8 (([u8I r.fn] ++ put2 r.at_) ++ put2 0)),(2,oB false 1 enc8 ([u8I r.fn] ++ put2 r.at_)),(1,oB false 1 enc8 [u8I r.fn]),(0,.obj (cReply r))]) (H3 := [(3,oB false 1 enc8 (([u8I r.fn] ++ put2 r.at_) ++ put2 0)),(2,oB false 1 enc8 ([u8I r.fn] ++ put2 r.at_)),(1,oB false 1 enc8 [u8I r.fn]),(0,.obj (cReply r))]) [] [] rfl rfl rfl (handed_of (by decide) trivial) rfl rfl rfl rfl rfl rfl (w_slices_Clip_byte_byte (([u8I r.fn] ++ put2 r.at_) ++ put2 0) false) rfl (dist_of rfl) rfl rfl rfl rfl ?_)
  refine qa hnt rfl rfl ?_
  refine qa hnt rfl rfl ?_
  refine r_set [(2,pS 1 true enc8 (([u8I r.fn] ++ put2 r.at_) ++ put2 0)),(3,pI 0)] [(3,oB false 1 enc8 (([u8I r.fn] ++ put2 r.at_) ++ put2 0)),(2,oB false 1 enc8 ([u8I r.fn] ++ put2 r.at_)),(1,oB false 1 enc8 [u8I r.fn]),(0,.obj (cReply r))] 4 ⟨rfl,rfl,trivial⟩ rfl rfl ?_
  refine r_end ?_
  refine q_then ?_
  refine w_le (s := 2) (y := pS 1 false enc8 (([u8I r.fn] ++ put2 r.at_) ++ put2 0)) rfl (le_loose) ?_
  refine w_le (s := 2) (y := pS 1 false enc8 (layE r)) rfl (le_of_eq (congrArg (fun z => pS 1 false enc8 z) (show (([u8I r.fn] ++ put2 r.at_) ++ put2 0) = (layE r) by (rw [hlr,lay_fn h0,layT_5 (by omega) he1]; simp [*]; done)))) ?_
  refine w_le (s := 3) (y := pI (goodR r)) rfl (le_of_eq (congrArg (fun z : Int => pI z) (show 0 = (goodR r) by simp [*]))) ?_
  refine w_ret ?_
  exact fin_plain (ret_tmp rfl (ret_tmp rfl ret_nil)) rfl rfl ⟨rfl,rfl,rfl⟩
 have c8_ := c8
 try simp only [sB] at c8
 refine w_seq ?_
 refine w_R ?_
 refine qo hnt rfl (s_eql rfl rfl ?_)
 refine qa hnt rfl rfl ?_
 refine r_end ?_
 refine q_then ?_
 refine w_if rfl (fun c10 => ?_) (fun c10 => ?_)
 ·
  have c10_ := c10
  try simp only [sB] at c10
  obtain ⟨v1,hv1⟩ := vals_one (l := r.vals) (h6v (by omega))
  refine W_drawn tabOk mixed hnt [[],[],[1],[0,1,2],[],[4],[0,1,2,3,4,5],[0,1,2,3,4,5,6],[0,1,2,3,4,5,6,7]] (by kernel_rfl) ?_
  refine d_op ?_
  refine x_run0 [(5,PV.ref 1 0 none)] [] rfl rfl rfl rfl (s_move rfl ⟨rfl,rfl,rfl⟩) ?_
  refine d_op ?_
  refine x_run0 [(1,PV.ptr 0 0)] [] rfl rfl rfl rfl (s_fa_ptr tab_53 rfl rfl tab_3 (by decide) rfl ⟨rfl,rfl,rfl⟩) ?_
  refine d_op ?_
  refine xL [(63,PV.ptr 0 2)] [1] [(0,.obj (cReply r))] rfl rfl rfl rfl rfl (s_load_ptr1 tab_3 rfl rfl rfl rfl rfl ⟨rfl,rfl,rfl⟩) ⟨rfl,trivial⟩ rfl ?_
  refine d_op ?_
  refine xT [(62,PV.ref 1 0 none),(64,pI r.at_)] [0,1,2] [(1,oB true 1 enc8 [u8I r.fn])] [(2,oB true 1 enc8 ([u8I r.fn] ++ put2 r.at_)),(1,oB false 1 enc8 [u8I r.fn])] [(0,.obj (cReply r))] rfl rfl rfl rfl rfl (s_callX (r2 := PV.ref 2 0 none) (nx1 := 3) (H2 := [(1,oB false 1 enc8 [u8I r.fn])]) (H3 := [(2,oB true 1 enc8 ([u8I r.fn] ++ put2 r.at_)),(1,oB false 1 enc8 [u8I r.fn])]) [] [] rfl rfl rfl (handed_of (by decide) trivial) rfl rfl rfl rfl rfl rfl (w_octet_Put [u8I r.fn] false r.at_ (by (simp; done))) rfl (dist_of rfl) rfl rfl rfl rfl ⟨rfl,rfl,rfl⟩) rfl rfl ?_
  refine d_op ?_
  refine x_run0 [(1,PV.ptr 0 0)] [] rfl rfl rfl rfl (s_fa_ptr tab_53 rfl rfl tab_43 (by decide) rfl ⟨rfl,rfl,rfl⟩) ?_
  refine d_op ?_
  refine xL [(66,PV.ptr 0 6)] [4] [(0,.obj (cReply r))] rfl rfl rfl rfl rfl (s_load_ptr1 tab_43 rfl rfl rfl rfl rfl ⟨rfl,rfl,rfl⟩) ⟨rfl,trivial⟩ rfl ?_
  refine d_op ?_
  refine xT [(67,pS 1 false enc16 r.vals)] [0,1,2,3,4,5] [] [(3,oB true 1 enc8 (bytesL r.vals))] [(2,oB true 1 enc8 ([u8I r.fn] ++ put2 r.at_)),(1,oB false 1 enc8 [u8I r.fn]),(0,.obj (cReply r))] rfl rfl rfl rfl rfl (s_callX (r2 := PV.ref 3 0 none) (nx1 := 4) (H2 := []) (H3 := [(3,oB true 1 enc8 (bytesL r.vals))]) [] [] rfl rfl rfl (handed_of (by decide) trivial) rfl rfl rfl rfl rfl rfl (w_octet_Bytes r.vals false (by omega)) rfl (dist_of rfl) rfl rfl rfl rfl ⟨rfl,rfl,rfl⟩) rfl rfl ?_
  refine d_op ?_
  refine x_run [(65,PV.ref 2 0 none),(68,PV.ref 3 0 none)] [0,1,2,3,4,5,6] [(3,oB true 1 enc8 (bytesL r.vals))] [(2,oB true 1 enc8 ([u8I r.fn] ++ put2 r.at_))] [(4,oB true 1 enc8 (([u8I r.fn] ++ put2 r.at_) ++ (bytesL r.vals))),(3,oB true 1 enc8 (bytesL r.vals))] [(4,oB true 1 enc8 (([u8I r.fn] ++ put2 r.at_) ++ (bytesL r.vals)))] [(4,oB true 1 enc8 (([u8I r.fn] ++ put2 r.at_) ++ (bytesL r.vals))),(3,oB true 1 enc8 (bytesL r.vals)),(1,oB false 1 enc8 [u8I r.fn]),(0,.obj (cReply r))] rfl rfl rfl rfl rfl rfl (s_appR0 (f := enc8) (l := [u8I r.fn] ++ put2 r.at_) (xs := bytesL r.vals) tab_51 rfl tab_5 ⟨rfl,by decide,by decide⟩ (srcM tab_51 rfl (hM_ref0 (f := enc8) rfl rfl)) rfl rfl (by (simp; omega)) ⟨rfl,rfl,rfl⟩) rfl ⟨rfl,trivial⟩ rfl rfl ?_
  refine d_op ?_
  refine x_run0 [(69,PV.ref 4 0 none)] [0,1,2,3,4,5,6,7] rfl rfl rfl rfl (s_assign rfl ⟨rfl,rfl,rfl⟩) ?_
  refine d_end ⟨by kernel_rfl, ?_⟩
  refine q_block ?_
  refine q_then ?_
  refine w_seq ?_
  refine w_R ?_
  refine qm hnt rfl rfl ?_
  refine qo hnt rfl (s_callX (r2 := pS 1 true enc8 (([u8I r.fn] ++ put2 r.at_) ++ (bytesL r.vals))) (nx1 := 5) (H2 := [(4,oB false 1 enc8 (([u8I r.fn] ++ put2 r.at_) ++ (bytesL r.vals))),(3,oB true 1 enc8 (bytesL r.vals)),(1,oB false 1 enc8 [u8I r.fn]),(0,.obj (cReply r))]) (H3 := [(4,oB false 1 enc8 (([u8I r.fn] ++ put2 r.at_) ++ (bytesL r.vals))),(3,oB true 1 enc8 (bytesL r.vals)),(1,oB false 1 enc8 [u8I r.fn]),(0,.obj (cReply r))]) [] [] rfl rfl rfl (handed_of (by decide) trivial) rfl rfl rfl rfl rfl rfl (w_slices_Clip_byte_byte (([u8I r.fn] ++ put2 r.at_) ++ (bytesL r.vals)) false) rfl (dist_of rfl) rfl rfl rfl rfl ?_)
  refine qa hnt rfl rfl ?_
  refine qa hnt rfl rfl ?_
  refine r_set [(2,pS 1 true enc8 (([u8I r.fn] ++ put2 r.at_) ++ (bytesL r.vals))),(3,pI 0)] [(4,oB false 1 enc8 (([u8I r.fn] ++ put2 r.at_) ++ (bytesL r.vals))),(3,oB true 1 enc8 (bytesL r.vals)),(1,oB false 1 enc8 [u8I r.fn]),(0,.obj (cReply r))] 5 ⟨rfl,rfl,trivial⟩ rfl rfl ?_
  refine r_end ?_
  refine q_then ?_
  refine w_le (s := 2) (y := pS 1 false enc8 (([u8I r.fn] ++ put2 r.at_) ++ (bytesL r.vals))) rfl (le_loose) ?_
  refine w_le (s := 2) (y := pS 1 false enc8 (layE r)) rfl (le_of_eq (congrArg (fun z => pS 1 false enc8 z) (show (([u8I r.fn] ++ put2 r.at_) ++ (bytesL r.vals)) = (layE r) by (rw [hlr,lay_fn h0,layT_6 (by omega) hv1]; simp; done)))) ?_
  refine w_le (s := 3) (y := pI (goodR r)) rfl (le_of_eq (congrArg (fun z : Int => pI z) (show 0 = (goodR r) by simp [*]))) ?_
  refine w_ret ?_
  exact fin_plain (ret_tmp rfl (ret_tmp rfl ret_nil)) rfl rfl ⟨rfl,rfl,rfl⟩
 have c10_ := c10
 try simp only [sB] at c10
 refine w_seq ?_
 refine w_R ?_
 refine qo hnt rfl (s_eql rfl rfl ?_)
 refine qa hnt rfl rfl ?_
 refine r_end ?_
 refine q_then ?_
 refine w_if rfl (fun c11 => ?_) (fun c11 => ?_)
 ·
  have c11_ := c11
  try simp only [sB] at c11
  obtain ⟨v1,hv1⟩ := vals_one (l := r.vals) (h6v (by omega))
  refine W_drawn tabOk mixed hnt [[],[],[1],[0,1,2],[],[4],[0,1,2,3,4,5],[0,1,2,3,4,5,6],[0,1,2,3,4,5,6,7]] (by kernel_rfl) ?_
  refine d_op ?_
  refine x_run0 [(5,PV.ref 1 0 none)] [] rfl rfl rfl rfl (s_move rfl ⟨rfl,rfl,rfl⟩) ?_
  refine d_op ?_
  refine x_run0 [(1,PV.ptr 0 0)] [] rfl rfl rfl rfl (s_fa_ptr tab_53 rfl rfl tab_3 (by decide) rfl ⟨rfl,rfl,rfl⟩) ?_
  refine d_op ?_
  refine xL [(73,PV.ptr 0 4)] [1] [(0,.obj (cReply r))] rfl rfl rfl rfl rfl (s_load_ptr1 tab_3 rfl rfl rfl rfl rfl ⟨rfl,rfl,rfl⟩) ⟨rfl,trivial⟩ rfl ?_
  refine d_op ?_
  refine xT [(72,PV.ref 1 0 none),(74,pI r.sub)] [0,1,2] [(1,oB true 1 enc8 [u8I r.fn])] [(2,oB true 1 enc8 ([u8I r.fn] ++ put2 r.sub)),(1,oB false 1 enc8 [u8I r.fn])] [(0,.obj (cReply r))] rfl rfl rfl rfl rfl (s_callX (r2 := PV.ref 2 0 none) (nx1 := 3) (H2 := [(1,oB false 1 enc8 [u8I r.fn])]) (H3 := [(2,oB true 1 enc8 ([u8I r.fn] ++ put2 r.sub)),(1,oB false 1 enc8 [u8I r.fn])]) [] [] rfl rfl rfl (handed_of (by decide) trivial) rfl rfl rfl rfl rfl rfl (w_octet_Put [u8I r.fn] false r.sub (by (simp; done))) rfl (dist_of rfl) rfl rfl rfl rfl ⟨rfl,rfl,rfl⟩) rfl rfl ?_
  refine d_op ?_
  refine x_run0 [(1,PV.ptr 0 0)] [] rfl rfl rfl rfl (s_fa_ptr tab_53 rfl rfl tab_43 (by decide) rfl ⟨rfl,rfl,rfl⟩) ?_
  refine d_op ?_
  refine xL [(76,PV.ptr 0 6)] [4] [(0,.obj (cReply r))] rfl rfl rfl rfl rfl (s_load_ptr1 tab_43 rfl rfl rfl rfl rfl ⟨rfl,rfl,rfl⟩) ⟨rfl,trivial⟩ rfl ?_
  refine d_op ?_
  refine xT [(77,pS 1 false enc16 r.vals)] [0,1,2,3,4,5] [] [(3,oB true 1 enc8 (bytesL r.vals))] [(2,oB true 1 enc8 ([u8I r.fn] ++ put2 r.sub)),(1,oB false 1 enc8 [u8I r.fn]),(0,.obj (cReply r))] rfl rfl rfl rfl rfl (s_callX (r2 := PV.ref 3 0 none) (nx1 := 4) (H2 := []) (H3 := [(3,oB true 1 enc8 (bytesL r.vals))]) [] [] rfl rfl rfl (handed_of (by decide) trivial) rfl rfl rfl rfl rfl rfl (w_octet_Bytes r.vals false (by omega)) rfl (dist_of rfl) rfl rfl rfl rfl ⟨rfl,rfl,rfl⟩) rfl rfl ?_
  refine d_op ?_
  refine x_run [(75,PV.ref 2 0 none),(78,PV.ref 3 0 none)] [0,1,2,3,4,5,6] [(3,oB true 1 enc8 (bytesL r.vals))] [(2,oB true 1 enc8 ([u8I r.fn] ++ put2 r.sub))] [(4,oB true 1 enc8 (([u8I r.fn] ++ put2 r.sub) ++ (bytesL r.vals))),(3,oB true 1 enc8 (bytesL r.vals))] [(4,oB true 1 enc8 (([u8I r.fn] ++ put2 r.sub) ++ (bytesL r.vals)))] [(4,oB true 1 enc8 (([u8I r.fn] ++ put2 r.sub) ++ (bytesL r.vals))),(3,oB true 1 enc8 (bytesL r.vals)),(1,oB false 1 enc8 [u8I r.fn]),(0,.obj (cReply r))] rfl rfl rfl rfl rfl rfl (s_appR0 (f := enc8) (l := [u8I r.fn] ++ put2 r.sub) (xs := bytesL r.vals) tab_51 rfl tab_5 ⟨rfl,by decide,by decide⟩ (srcM tab_51 rfl (hM_ref0 (f := enc8) rfl rfl)) rfl rfl (by (simp; omega)) ⟨rfl,rfl,rfl⟩) rfl ⟨rfl,trivial⟩ rfl rfl ?_
  refine d_op ?_
  refine x_run0 [(79,PV.ref 4 0 none)] [0,1,2,3,4,5,6,7] rfl rfl rfl rfl (s_assign rfl ⟨rfl,rfl,rfl⟩) ?_
  refine d_end ⟨by kernel_rfl, ?_⟩
  refine q_block ?_
  refine q_then ?_
  refine w_seq ?_
  refine w_R ?_
  refine qm hnt rfl rfl ?_
  refine qo hnt rfl (s_callX (r2 := pS 1 true enc8 (([u8I r.fn] ++ put2 r.sub) ++ (bytesL r.vals))) (nx1 := 5) (H2 := [(4,oB false 1 enc8 (([u8I r.fn] ++ put2 r.sub) ++ (bytesL r.vals))),(3,oB true 1 enc8 (bytesL r.vals)),(1,oB false 1 enc8 [u8I r.fn]),(0,.obj (cReply r))]) (H3 := [(4,oB false 1 enc8 (([u8I r.fn] ++ put2 r.sub) ++ (bytesL r.vals))),(3,oB true 1 enc8 (bytesL r.vals)),(1,oB false 1 enc8 [u8I r.fn]),(0,.obj (cReply r))]) [] [] rfl rfl rfl (handed_of (by decide) trivial) rfl rfl rfl rfl rfl rfl (w_slices_Clip_byte_byte (([u8I r.fn] ++ put2 r.sub) ++ (bytesL r.vals)) false) rfl (dist_of rfl) rfl rfl rfl rfl ?_)
  refine qa hnt rfl rfl ?_
  refine qa hnt rfl rfl ?_
  refine r_set [(2,pS 1 true enc8 (([u8I r.fn] ++ put2 r.sub) ++ (bytesL r.vals))),(3,pI 0)] [(4,oB false 1 enc8 (([u8I r.fn] ++ put2 r.sub) ++ (bytesL r.vals))),(3,oB true 1 enc8 (bytesL r.vals)),(1,oB false 1 enc8 [u8I r.fn]),(0,.obj (cReply r))] 5 ⟨rfl,rfl,trivial⟩ rfl rfl ?_
  refine r_end ?_
  refine q_then ?_
  refine w_le (s := 2) (y := pS 1 false enc8 (([u8I r.fn] ++ put2 r.sub) ++ (bytesL r.vals))) rfl (le_loose) ?_
  refine w_le (s := 2) (y := pS 1 false enc8 (layE r)) rfl (le_of_eq (congrArg (fun z => pS 1 false enc8 z) (show (([u8I r.fn] ++ put2 r.sub) ++ (bytesL r.vals)) = (layE r) by (rw [hlr,lay_fn h0,layT_8 (by omega) hv1]; simp; done)))) ?_
  refine w_le (s := 3) (y := pI (goodR r)) rfl (le_of_eq (congrArg (fun z : Int => pI z) (show 0 = (goodR r) by simp [*]))) ?_
  refine w_ret ?_
  exact fin_plain (ret_tmp rfl (ret_tmp rfl ret_nil)) rfl rfl ⟨rfl,rfl,rfl⟩
 have c11_ := c11
 try simp only [sB] at c11
 refine w_seq ?_
 refine w_seq ?_
 refine w_R ?_
 refine qo hnt rfl (s_eql rfl rfl ?_)
 refine qa hnt rfl rfl ?_
 refine r_end ?_
 refine q_then ?_
 refine w_if rfl (fun c12 => ?_) (fun c12 => ?_)
 ·
  have c12_ := c12
  try simp only [sB] at c12
  refine w_skip ?_
  refine q_then ?_
  refine w_if rfl (fun _ => ?_) (fun e => absurd (e.symm.trans c12_) (by decide))
  refine W_drawn tabOk mixed hnt [[],[],[1],[0,1,2],[],[4],[0,1,2,3,4,5],[0,1,2,3,4,5,6]] (by kernel_rfl) ?_
  refine d_op ?_
  refine x_run0 [(5,PV.ref 1 0 none)] [] rfl rfl rfl rfl (s_move rfl ⟨rfl,rfl,rfl⟩) ?_
  refine d_op ?_
  refine x_run0 [(1,PV.ptr 0 0)] [] rfl rfl rfl rfl (s_fa_ptr tab_53 rfl rfl tab_3 (by decide) rfl ⟨rfl,rfl,rfl⟩) ?_
  refine d_op ?_
  refine xL [(84,PV.ptr 0 2)] [1] [(0,.obj (cReply r))] rfl rfl rfl rfl rfl (s_load_ptr1 tab_3 rfl rfl rfl rfl rfl ⟨rfl,rfl,rfl⟩) ⟨rfl,trivial⟩ rfl ?_
  refine d_op ?_
  refine xT [(83,PV.ref 1 0 none),(85,pI r.at_)] [0,1,2] [(1,oB true 1 enc8 [u8I r.fn])] [(2,oB true 1 enc8 ([u8I r.fn] ++ put2 r.at_)),(1,oB false 1 enc8 [u8I r.fn])] [(0,.obj (cReply r))] rfl rfl rfl rfl rfl (s_callX (r2 := PV.ref 2 0 none) (nx1 := 3) (H2 := [(1,oB false 1 enc8 [u8I r.fn])]) (H3 := [(2,oB true 1 enc8 ([u8I r.fn] ++ put2 r.at_)),(1,oB false 1 enc8 [u8I r.fn])]) [] [] rfl rfl rfl (handed_of (by decide) trivial) rfl rfl rfl rfl rfl rfl (w_octet_Put [u8I r.fn] false r.at_ (by (simp; done))) rfl (dist_of rfl) rfl rfl rfl rfl ⟨rfl,rfl,rfl⟩) rfl rfl ?_
  refine d_op ?_
  refine x_run0 [(1,PV.ptr 0 0)] [] rfl rfl rfl rfl (s_fa_ptr tab_53 rfl rfl tab_3 (by decide) rfl ⟨rfl,rfl,rfl⟩) ?_
  refine d_op ?_
  refine xL [(87,PV.ptr 0 3)] [4] [(0,.obj (cReply r))] rfl rfl rfl rfl rfl (s_load_ptr1 tab_3 rfl rfl rfl rfl rfl ⟨rfl,rfl,rfl⟩) ⟨rfl,trivial⟩ rfl ?_
  refine d_op ?_
  refine xT [(86,PV.ref 2 0 none),(88,pI r.count)] [0,1,2,3,4,5] [(2,oB true 1 enc8 ([u8I r.fn] ++ put2 r.at_))] [(3,oB true 1 enc8 (([u8I r.fn] ++ put2 r.at_) ++ put2 r.count)),(2,oB false 1 enc8 ([u8I r.fn] ++ put2 r.at_))] [(1,oB false 1 enc8 [u8I r.fn]),(0,.obj (cReply r))] rfl rfl rfl rfl rfl (s_callX (r2 := PV.ref 3 0 none) (nx1 := 4) (H2 := [(2,oB false 1 enc8 ([u8I r.fn] ++ put2 r.at_))]) (H3 := [(3,oB true 1 enc8 (([u8I r.fn] ++ put2 r.at_) ++ put2 r.count)),(2,oB false 1 enc8 ([u8I r.fn] ++ put2 r.at_))]) [] [] rfl rfl rfl (handed_of (by decide) trivial) rfl rfl rfl rfl rfl rfl (w_octet_Put ([u8I r.fn] ++ put2 r.at_) false r.count (by (simp; done))) rfl (dist_of rfl) rfl rfl rfl rfl ⟨rfl,rfl,rfl⟩) rfl rfl ?_
  refine d_op ?_
  refine x_run0 [(89,PV.ref 3 0 none)] [0,1,2,3,4,5,6] rfl rfl rfl rfl (s_assign rfl ⟨rfl,rfl,rfl⟩) ?_
  refine d_end ⟨by kernel_rfl, ?_⟩
  refine q_block ?_
  refine q_then ?_
  refine w_seq ?_
  refine w_R ?_
  refine qm hnt rfl rfl ?_
  refine qo hnt rfl (s_callX (r2 := pS 1 true enc8 (([u8I r.fn] ++ put2 r.at_) ++ put2 r.count)) (nx1 := 4) (H2 := [(3,oB false 1 enc8 (([u8I r.fn] ++ put2 r.at_) ++ put2 r.count)),(2,oB false 1 enc8 ([u8I r.fn] ++ put2 r.at_)),(1,oB false 1 enc8 [u8I r.fn]),(0,.obj (cReply r))]) (H3 := [(3,oB false 1 enc8 (([u8I r.fn] ++ put2 r.at_) ++ put2 r.count)),(2,oB false 1 enc8 ([u8I r.fn] ++ put2 r.at_)),(1,oB false 1 enc8 [u8I r.fn]),(0,.obj (cReply r))]) [] [] rfl rfl rfl (handed_of (by decide) trivial) rfl rfl rfl rfl rfl rfl (w_slices_Clip_byte_byte (([u8I r.fn] ++ put2 r.at_) ++ put2 r.count) false) rfl (dist_of rfl) rfl rfl rfl rfl ?_)
  refine qa hnt rfl rfl ?_
  refine qa hnt rfl rfl ?_
  refine r_set [(2,pS 1 true enc8 (([u8I r.fn] ++ put2 r.at_) ++ put2 r.count)),(3,pI 0)] [(3,oB false 1 enc8 (([u8I r.fn] ++ put2 r.at_) ++ put2 r.count)),(2,oB false 1 enc8 ([u8I r.fn] ++ put2 r.at_)),(1,oB false 1 enc8 [u8I r.fn]),(0,.obj (cReply r))] 4 ⟨rfl,rfl,trivial⟩ rfl rfl ?_
  refine r_end ?_
  refine q_then ?_
  refine w_le (s := 2) (y := pS 1 false enc8 (([u8I r.fn] ++ put2 r.at_) ++ put2 r.count)) rfl (le_loose) ?_
  refine w_le (s := 2) (y := pS 1 false enc8 (layE r)) rfl (le_of_eq (congrArg (fun z => pS 1 false enc8 z) (show (([u8I r.fn] ++ put2 r.at_) ++ put2 r.count) = (layE r) by (rw [hlr,lay_fn h0,layT_15 (by omega)]; simp; done)))) ?_
  refine w_le (s := 3) (y := pI (goodR r)) rfl (le_of_eq (congrArg (fun z : Int => pI z) (show 0 = (goodR r) by simp [*]))) ?_
  refine w_ret ?_
  exact fin_plain (ret_tmp rfl (ret_tmp rfl ret_nil)) rfl rfl ⟨rfl,rfl,rfl⟩
 have c12_ := c12
 try simp only [sB] at c12
 refine w_R ?_
 refine qo hnt rfl (s_eql rfl rfl ?_)
 refine qa hnt rfl rfl ?_
 refine r_end ?_
 refine q_then ?_
 refine w_if rfl (fun c13 => ?_) (fun c13 => ?_)
 ·
  have c13_ := c13
  try simp only [sB] at c13
  refine W_drawn tabOk mixed hnt [[],[],[1],[0,1,2],[],[4],[0,1,2,3,4,5],[0,1,2,3,4,5,6]] (by kernel_rfl) ?_
  refine d_op ?_
  refine x_run0 [(5,PV.ref 1 0 none)] [] rfl rfl rfl rfl (s_move rfl ⟨rfl,rfl,rfl⟩) ?_
  refine d_op ?_
  refine x_run0 [(1,PV.ptr 0 0)] [] rfl rfl rfl rfl (s_fa_ptr tab_53 rfl rfl tab_3 (by decide) rfl ⟨rfl,rfl,rfl⟩) ?_
  refine d_op ?_
  refine xL [(84,PV.ptr 0 2)] [1] [(0,.obj (cReply r))] rfl rfl rfl rfl rfl (s_load_ptr1 tab_3 rfl rfl rfl rfl rfl ⟨rfl,rfl,rfl⟩) ⟨rfl,trivial⟩ rfl ?_
  refine d_op ?_
  refine xT [(83,PV.ref 1 0 none),(85,pI r.at_)] [0,1,2] [(1,oB true 1 enc8 [u8I r.fn])] [(2,oB true 1 enc8 ([u8I r.fn] ++ put2 r.at_)),(1,oB false 1 enc8 [u8I r.fn])] [(0,.obj (cReply r))] rfl rfl rfl rfl rfl (s_callX (r2 := PV.ref 2 0 none) (nx1 := 3) (H2 := [(1,oB false 1 enc8 [u8I r.fn])]) (H3 := [(2,oB true 1 enc8 ([u8I r.fn] ++ put2 r.at_)),(1,oB false 1 enc8 [u8I r.fn])]) [] [] rfl rfl rfl (handed_of (by decide) trivial) rfl rfl rfl rfl rfl rfl (w_octet_Put [u8I r.fn] false r.at_ (by (simp; done))) rfl (dist_of rfl) rfl rfl rfl rfl ⟨rfl,rfl,rfl⟩) rfl rfl ?_
  refine d_op ?_
  refine x_run0 [(1,PV.ptr 0 0)] [] rfl rfl rfl rfl (s_fa_ptr tab_53 rfl rfl tab_3 (by decide) rfl ⟨rfl,rfl,rfl⟩) ?_
  refine d_op ?_
  refine xL [(87,PV.ptr 0 3)] [4] [(0,.obj (cReply r))] rfl rfl rfl rfl rfl (s_load_ptr1 tab_3 rfl rfl rfl rfl rfl ⟨rfl,rfl,rfl⟩) ⟨rfl,trivial⟩ rfl ?_
  refine d_op ?_
  refine xT [(86,PV.ref 2 0 none),(88,pI r.count)] [0,1,2,3,4,5] [(2,oB true 1 enc8 ([u8I r.fn] ++ put2 r.at_))] [(3,oB true 1 enc8 (([u8I r.fn] ++ put2 r.at_) ++ put2 r.count)),(2,oB false 1 enc8 ([u8I r.fn] ++ put2 r.at_))] [(1,oB false 1 enc8 [u8I r.fn]),(0,.obj (cReply r))] rfl rfl rfl rfl rfl (s_callX (r2 := PV.ref 3 0 none) (nx1 := 4) (H2 := [(2,oB false 1 enc8 ([u8I r.fn] ++ put2 r.at_))]) (H3 := [(3,oB true 1 enc8 (([u8I r.fn] ++ put2 r.at_) ++ put2 r.count)),(2,oB false 1 enc8 ([u8I r.fn] ++ put2 r.at_))]) [] [] rfl rfl rfl (handed_of (by decide) trivial) rfl rfl rfl rfl rfl rfl (w_octet_Put ([u8I r.fn] ++ put2 r.at_) false r.count (by (simp; done))) rfl (dist_of rfl) rfl rfl rfl rfl ⟨rfl,rfl,rfl⟩) rfl rfl ?_
  refine d_op ?_
  refine x_run0 [(89,PV.ref 3 0 none)] [0,1,2,3,4,5,6] rfl rfl rfl rfl (s_assign rfl ⟨rfl,rfl,rfl⟩) ?_
  refine d_end ⟨by kernel_rfl, ?_⟩
  refine q_block ?_
  refine q_then ?_
  refine w_seq ?_
  refine w_R ?_
  refine qm hnt rfl rfl ?_
  refine qo hnt rfl (s_callX (r2 := pS 1 true enc8 (([u8I r.fn] ++ put2 r.at_) ++ put2 r.count)) (nx1 := 4) (H2 := [(3,oB false 1 enc8 (([u8I r.fn] ++ put2 r.at_) ++ put2 r.count)),(2,oB false 1 enc8 ([u8I r.fn] ++ put2 r.at_)),(1,oB false 1 enc8 [u8I r.fn]),(0,.obj (cReply r))]) (H3 := [(3,oB false 1 enc8 (([u8I r.fn] ++ put2 r.at_) ++ put2 r.count)),(2,oB false 1 enc8 ([u8I r.fn] ++ put2 r.at_)),(1,oB false 1 enc8 [u8I r.fn]),(0,.obj (cReply r))]) [] [] rfl rfl rfl (handed_of (by decide) trivial) rfl rfl rfl rfl rfl rfl (w_slices_Clip_byte_byte (([u8I r.fn] ++ put2 r.at_) ++ put2 r.count) false) rfl (dist_of rfl) rfl rfl rfl rfl ?_)
  refine qa hnt rfl rfl ?_
  refine qa hnt rfl rfl ?_
  refine r_set [(2,pS 1 true enc8 (([u8I r.fn] ++ put2 r.at_) ++ put2 r.count)),(3,pI 0)] [(3,oB false 1 enc8 (([u8I r.fn] ++ put2 r.at_) ++ put2 r.count)),(2,oB false 1 enc8 ([u8I r.fn] ++ put2 r.at_)),(1,oB false 1 enc8 [u8I r.fn]),(0,.obj (cReply r))] 4 ⟨rfl,rfl,trivial⟩ rfl rfl ?_
  refine r_end ?_
  refine q_then ?_
  refine w_le (s := 2) (y := pS 1 false enc8 (([u8I r.fn] ++ put2 r.at_) ++ put2 r.count)) rfl (le_loose) ?_
  refine w_le (s := 2) (y := pS 1 false enc8 (layE r)) rfl (le_of_eq (congrArg (fun z => pS 1 false enc8 z) (show (([u8I r.fn] ++ put2 r.at_) ++ put2 r.count) = (layE r) by (rw [hlr,lay_fn h0,layT_15 (by omega)]; simp; done)))) ?_
  refine w_le (s := 3) (y := pI (goodR r)) rfl (le_of_eq (congrArg (fun z : Int => pI z) (show 0 = (goodR r) by simp [*]))) ?_
  refine w_ret ?_
  exact fin_plain (ret_tmp rfl (ret_tmp rfl ret_nil)) rfl rfl ⟨rfl,rfl,rfl⟩
 have c13_ := c13
 try simp only [sB] at c13
 refine w_seq ?_
 refine w_R ?_
 refine qo hnt rfl (s_eql rfl rfl ?_)
 refine qa hnt rfl rfl ?_
 refine r_end ?_
 refine q_then ?_
 refine w_if rfl (fun c14 => ?_) (fun c14 => ?_)
 ·
  have c14_ := c14
  try simp only [sB] at c14
  refine W_drawn tabOk mixed hnt [[],[],[1],[0,1,2],[],[4],[4,5],[0,1,2,3,4,5,6],[],[8],[8,9],[0,1,2,3,4,5,6,7,8,9,10],[0,1,2,3,4,5,6,7,8,9,10,11]] (by kernel_rfl) ?_
  refine d_op ?_
  refine x_run0 [(5,PV.ref 1 0 none)] [] rfl rfl rfl rfl (s_move rfl ⟨rfl,rfl,rfl⟩) ?_
  refine d_op ?_
  refine x_run0 [(1,PV.ptr 0 0)] [] rfl rfl rfl rfl (s_fa_ptr tab_53 rfl rfl tab_3 (by decide) rfl ⟨rfl,rfl,rfl⟩) ?_
  refine d_op ?_
  refine xL [(93,PV.ptr 0 2)] [1] [(0,.obj (cReply r))] rfl rfl rfl rfl rfl (s_load_ptr1 tab_3 rfl rfl rfl rfl rfl ⟨rfl,rfl,rfl⟩) ⟨rfl,trivial⟩ rfl ?_
  refine d_op ?_
  refine xT [(92,PV.ref 1 0 none),(94,pI r.at_)] [0,1,2] [(1,oB true 1 enc8 [u8I r.fn])] [(2,oB true 1 enc8 ([u8I r.fn] ++ put2 r.at_)),(1,oB false 1 enc8 [u8I r.fn])] [(0,.obj (cReply r))] rfl rfl rfl rfl rfl (s_callX (r2 := PV.ref 2 0 none) (nx1 := 3) (H2 := [(1,oB false 1 enc8 [u8I r.fn])]) (H3 := [(2,oB true 1 enc8 ([u8I r.fn] ++ put2 r.at_)),(1,oB false 1 enc8 [u8I r.fn])]) [] [] rfl rfl rfl (handed_of (by decide) trivial) rfl rfl rfl rfl rfl rfl (w_octet_Put [u8I r.fn] false r.at_ (by (simp; done))) rfl (dist_of rfl) rfl rfl rfl rfl ⟨rfl,rfl,rfl⟩) rfl rfl ?_
  refine d_op ?_
  refine x_run0 [(1,PV.ptr 0 0)] [] rfl rfl rfl rfl (s_fa_ptr tab_53 rfl rfl tab_44 (by decide) rfl ⟨rfl,rfl,rfl⟩) ?_
  refine d_op ?_
  refine xL [(96,PV.ptr 0 7)] [4] [(0,.obj (cReply r))] rfl rfl rfl rfl rfl (s_load_ptr1 tab_44 rfl rfl rfl rfl rfl ⟨rfl,rfl,rfl⟩) ⟨rfl,trivial⟩ rfl ?_
  refine d_op ?_
  refine x_run0 [(97,p16 r.and_)] [4,5] rfl rfl rfl rfl (s_cvN (a := UInt16.toNat r.and_) tab_44 tab_3 rfl rfl rfl (by omega) (by have := lt16 r.and_; omega) ⟨rfl,rfl,rfl⟩) ?_
  refine d_op ?_
  refine xT [(95,PV.ref 2 0 none),(98,pN (UInt16.toNat r.and_))] [0,1,2,3,4,5,6] [(2,oB true 1 enc8 ([u8I r.fn] ++ put2 r.at_))] [(3,oB true 1 enc8 (([u8I r.fn] ++ put2 r.at_) ++ put2 ((UInt16.toNat r.and_ : Nat) : Int))),(2,oB false 1 enc8 ([u8I r.fn] ++ put2 r.at_))] [(1,oB false 1 enc8 [u8I r.fn]),(0,.obj (cReply r))] rfl rfl rfl rfl rfl (s_callX (r2 := PV.ref 3 0 none) (nx1 := 4) (H2 := [(2,oB false 1 enc8 ([u8I r.fn] ++ put2 r.at_))]) (H3 := [(3,oB true 1 enc8 (([u8I r.fn] ++ put2 r.at_) ++ put2 ((UInt16.toNat r.and_ : Nat) : Int))),(2,oB false 1 enc8 ([u8I r.fn] ++ put2 r.at_))]) [] [] rfl rfl rfl (handed_of (by decide) trivial) rfl rfl rfl rfl rfl rfl (w_octet_Put ([u8I r.fn] ++ put2 r.at_) false ((UInt16.toNat r.and_ : Nat) : Int) (by (simp; done))) rfl (dist_of rfl) rfl rfl rfl rfl ⟨rfl,rfl,rfl⟩) rfl rfl ?_
  refine d_op ?_
  refine x_run0 [(1,PV.ptr 0 0)] [] rfl rfl rfl rfl (s_fa_ptr tab_53 rfl rfl tab_44 (by decide) rfl ⟨rfl,rfl,rfl⟩) ?_
  refine d_op ?_
  refine xL [(100,PV.ptr 0 8)] [8] [(0,.obj (cReply r))] rfl rfl rfl rfl rfl (s_load_ptr1 tab_44 rfl rfl rfl rfl rfl ⟨rfl,rfl,rfl⟩) ⟨rfl,trivial⟩ rfl ?_
  refine d_op ?_
  refine x_run0 [(101,p16 r.or_)] [8,9] rfl rfl rfl rfl (s_cvN (a := UInt16.toNat r.or_) tab_44 tab_3 rfl rfl rfl (by omega) (by have := lt16 r.or_; omega) ⟨rfl,rfl,rfl⟩) ?_
  refine d_op ?_
  refine xT [(99,PV.ref 3 0 none),(102,pN (UInt16.toNat r.or_))] [0,1,2,3,4,5,6,7,8,9,10] [(3,oB true 1 enc8 (([u8I r.fn] ++ put2 r.at_) ++ put2 ((UInt16.toNat r.and_ : Nat) : Int)))] [(4,oB true 1 enc8 ((([u8I r.fn] ++ put2 r.at_) ++ put2 ((UInt16.toNat r.and_ : Nat) : Int)) ++ put2 ((UInt16.toNat r.or_ : Nat) : Int))),(3,oB false 1 enc8 (([u8I r.fn] ++ put2 r.at_) ++ put2 ((UInt16.toNat r.and_ : Nat) : Int)))] [(2,oB false 1 enc8 ([u8I r.fn] ++ put2 r.at_)),(1,oB false 1 enc8 [u8I r.fn]),(0,.obj (cReply r))] rfl rfl rfl rfl rfl (s_callX (r2 := PV.ref 4 0 none) (nx1 := 5) (H2 := [(3,oB false 1 enc8 (([u8I r.fn] ++ put2 r.at_) ++ put2 ((UInt16.toNat r.and_ : Nat) : Int)))]) (H3 := [(4,oB true 1 enc8 ((([u8I r.fn] ++ put2 r.at_) ++ put2 ((UInt16.toNat r.and_ : Nat) : Int)) ++ put2 ((UInt16.toNat r.or_ : Nat) : Int))),(3,oB false 1 enc8 (([u8I r.fn] ++ put2 r.at_) ++ put2 ((UInt16.toNat r.and_ : Nat) : Int)))]) [] [] rfl rfl rfl (handed_of (by decide) trivial) rfl rfl rfl rfl rfl rfl (w_octet_Put (([u8I r.fn] ++ put2 r.at_) ++ put2 ((UInt16.toNat r.and_ : Nat) : Int)) false ((UInt16.toNat r.or_ : Nat) : Int) (by (simp; done))) rfl (dist_of rfl) rfl rfl rfl rfl ⟨rfl,rfl,rfl⟩) rfl rfl ?_
  refine d_op ?_
  refine x_run0 [(103,PV.ref 4 0 none)] [0,1,2,3,4,5,6,7,8,9,10,11] rfl rfl rfl rfl (s_assign rfl ⟨rfl,rfl,rfl⟩) ?_
  refine d_end ⟨by kernel_rfl, ?_⟩
  refine q_block ?_
  refine q_then ?_
  refine w_seq ?_
  refine w_R ?_
  refine qm hnt rfl rfl ?_
  refine qo hnt rfl (s_callX (r2 := pS 1 true enc8 ((([u8I r.fn] ++ put2 r.at_) ++ put2 ((UInt16.toNat r.and_ : Nat) : Int)) ++ put2 ((UInt16.toNat r.or_ : Nat) : Int))) (nx1 := 5) (H2 := [(4,oB false 1 enc8 ((([u8I r.fn] ++ put2 r.at_) ++ put2 ((UInt16.toNat r.and_ : Nat) : Int)) ++ put2 ((UInt16.toNat r.or_ : Nat) : Int))),(3,oB false 1 enc8 (([u8I r.fn] ++ put2 r.at_) ++ put2 ((UInt16.toNat r.and_ : Nat) : Int))),(2,oB false 1 enc8 ([u8I r.fn] ++ put2 r.at_)),(1,oB false 1 enc8 [u8I r.fn]),(0,.obj (cReply r))]) (H3 := [(4,oB false 1 enc8 ((([u8I r.fn] ++ put2 r.at_) ++ put2 ((UInt16.toNat r.and_ : Nat) : Int)) ++ put2 ((UInt16.toNat r.or_ : Nat) : Int))),(3,oB false 1 enc8 (([u8I r.fn] ++ put2 r.at_) ++ put2 ((UInt16.toNat r.and_ : Nat) : Int))),(2,oB false 1 enc8 ([u8I r.fn] ++ put2 r.at_)),(1,oB false 1 enc8 [u8I r.fn]),(0,.obj (cReply r))]) [] [] rfl rfl rfl (handed_of (by decide) trivial) rfl rfl rfl rfl rfl rfl (w_slices_Clip_byte_byte ((([u8I r.fn] ++ put2 r.at_) ++ put2 ((UInt16.toNat r.and_ : Nat) : Int)) ++ put2 ((UInt16.toNat r.or_ : Nat) : Int)) false) rfl (dist_of rfl) rfl rfl rfl rfl ?_)
  refine qa hnt rfl rfl ?_
  refine qa hnt rfl rfl ?_
  refine r_set [(2,pS 1 true enc8 ((([u8I r.fn] ++ put2 r.at_) ++ put2 ((UInt16.toNat r.and_ : Nat) : Int)) ++ put2 ((UInt16.toNat r.or_ : Nat) : Int))),(3,pI 0)] [(4,oB false 1 enc8 ((([u8I r.fn] ++ put2 r.at_) ++ put2 ((UInt16.toNat r.and_ : Nat) : Int)) ++ put2 ((UInt16.toNat r.or_ : Nat) : Int))),(3,oB false 1 enc8 (([u8I r.fn] ++ put2 r.at_) ++ put2 ((UInt16.toNat r.and_ : Nat) : Int))),(2,oB false 1 enc8 ([u8I r.fn] ++ put2 r.at_)),(1,oB false 1 enc8 [u8I r.fn]),(0,.obj (cReply r))] 5 ⟨rfl,rfl,trivial⟩ rfl rfl ?_
  refine r_end ?_
  refine q_then ?_
  refine w_le (s := 2) (y := pS 1 false enc8 ((([u8I r.fn] ++ put2 r.at_) ++ put2 ((UInt16.toNat r.and_ : Nat) : Int)) ++ put2 ((UInt16.toNat r.or_ : Nat) : Int))) rfl (le_loose) ?_
  refine w_le (s := 2) (y := pS 1 false enc8 (layE r)) rfl (le_of_eq (congrArg (fun z => pS 1 false enc8 z) (show ((([u8I r.fn] ++ put2 r.at_) ++ put2 ((UInt16.toNat r.and_ : Nat) : Int)) ++ put2 ((UInt16.toNat r.or_ : Nat) : Int)) = (layE r) by (rw [hlr,lay_fn h0,layT_22 (by omega)]; simp; done)))) ?_
  refine w_le (s := 3) (y := pI (goodR r)) rfl (le_of_eq (congrArg (fun z : Int => pI z) (show 0 = (goodR r) by simp [*]))) ?_
  refine w_ret ?_
  exact fin_plain (ret_tmp rfl (ret_tmp rfl ret_nil)) rfl rfl ⟨rfl,rfl,rfl⟩
 have c14_ := c14
 try simp only [sB] at c14
 refine w_seq ?_
 refine w_R ?_
 refine qo hnt rfl (s_eql rfl rfl ?_)
 refine qa hnt rfl rfl ?_
 refine r_end ?_
 refine q_then ?_
 refine w_if rfl (fun c15 => ?_) (fun c15 => ?_)
 ·
  have c15_ := c15
  try simp only [sB] at c15
  refine w_R ?_
  refine qo hnt rfl (s_fa_ptr tab_53 rfl rfl tab_3 (by decide) rfl ?_)
  refine qo hnt rfl (s_load_ptr1 tab_3 rfl rfl rfl rfl rfl ?_)
  refine qo hnt rfl (s_fa_ptr tab_53 rfl rfl tab_51 (by decide) rfl ?_)
  refine qo hnt rfl (s_load_ptr1 tab_51 rfl rfl rfl rfl rfl ?_)
  refine qo hnt rfl (s_callX (r2 := PV.ref 2 0 none) (nx1 := 3) (H2 := [(1,oB true 1 enc8 [u8I r.fn]),(0,.obj (cReply r))]) (H3 := [(2,oB true 1 enc8 (u8I r.fn :: rowX r.data)),(1,oB true 1 enc8 [u8I r.fn]),(0,.obj (cReply r))]) [] [] rfl rfl rfl (handed_of (by decide) trivial) rfl rfl rfl rfl rfl rfl (w_reply_counted r.fn r.data false (by omega)) rfl (dist_of rfl) rfl rfl rfl rfl ?_)
  refine qa hnt rfl rfl ?_
  refine r_set [(5,PV.ref 2 0 none)] [(2,oB true 1 enc8 (u8I r.fn :: rowX r.data)),(1,oB true 1 enc8 [u8I r.fn]),(0,.obj (cReply r))] 3 ⟨rfl,trivial⟩ rfl rfl ?_
  refine r_end ?_
  refine q_block ?_
  refine q_then ?_
  refine w_seq ?_
  refine w_R ?_
  refine qm hnt rfl rfl ?_
  refine qo hnt rfl (s_callX (r2 := pS 1 true enc8 (u8I r.fn :: rowX r.data)) (nx1 := 3) (H2 := [(2,oB false 1 enc8 (u8I r.fn :: rowX r.data)),(1,oB true 1 enc8 [u8I r.fn]),(0,.obj (cReply r))]) (H3 := [(2,oB false 1 enc8 (u8I r.fn :: rowX r.data)),(1,oB true 1 enc8 [u8I r.fn]),(0,.obj (cReply r))]) [] [] rfl rfl rfl (handed_of (by decide) trivial) rfl rfl rfl rfl rfl rfl (w_slices_Clip_byte_byte (u8I r.fn :: rowX r.data) false) rfl (dist_of rfl) rfl rfl rfl rfl ?_)
  refine qa hnt rfl rfl ?_
  refine qa hnt rfl rfl ?_
  refine r_set [(2,pS 1 true enc8 (u8I r.fn :: rowX r.data)),(3,pI 0)] [(2,oB false 1 enc8 (u8I r.fn :: rowX r.data)),(1,oB true 1 enc8 [u8I r.fn]),(0,.obj (cReply r))] 3 ⟨rfl,rfl,trivial⟩ rfl rfl ?_
  refine r_end ?_
  refine q_then ?_
  refine w_le (s := 2) (y := pS 1 false enc8 (u8I r.fn :: rowX r.data)) rfl (le_loose) ?_
  refine w_le (s := 2) (y := pS 1 false enc8 (layE r)) rfl (le_of_eq (congrArg (fun z => pS 1 false enc8 z) (show (u8I r.fn :: rowX r.data) = (layE r) by (rw [hlr,lay_fn h0,layT_17 (by omega)]; done)))) ?_
  refine w_le (s := 3) (y := pI (goodR r)) rfl (le_of_eq (congrArg (fun z : Int => pI z) (show 0 = (goodR r) by simp [*]))) ?_
  refine w_ret ?_
  exact fin_plain (ret_tmp rfl (ret_tmp rfl ret_nil)) rfl rfl ⟨rfl,rfl,rfl⟩
 have c15_ := c15
 try simp only [sB] at c15
 refine w_skip ?_
 refine q_block ?_
 refine q_then ?_
 refine w_seq ?_
 refine w_R ?_
 refine qm hnt rfl rfl ?_
 refine qo hnt rfl (s_callX (r2 := pS 1 true enc8 [u8I r.fn]) (nx1 := 2) (H2 := [(1,oB false 1 enc8 [u8I r.fn]),(0,.obj (cReply r))]) (H3 := [(1,oB false 1 enc8 [u8I r.fn]),(0,.obj (cReply r))]) [] [] rfl rfl rfl (handed_of (by decide) trivial) rfl rfl rfl rfl rfl rfl (w_slices_Clip_byte_byte [u8I r.fn] false) rfl (dist_of rfl) rfl rfl rfl rfl ?_)
 refine qa hnt rfl rfl ?_
 refine qa hnt rfl rfl ?_
 refine r_set [(2,pS 1 true enc8 [u8I r.fn]),(3,pI 0)] [(1,oB false 1 enc8 [u8I r.fn]),(0,.obj (cReply r))] 2 ⟨rfl,rfl,trivial⟩ rfl rfl ?_
 refine r_end ?_
 refine q_then ?_
 refine w_le (s := 2) (y := pS 1 false enc8 [u8I r.fn]) rfl (le_loose) ?_
 refine w_le (s := 2) (y := pS 1 false enc8 (layE r)) rfl (le_of_eq (congrArg (fun z => pS 1 false enc8 z) (show ([u8I r.fn] : List UInt8) = (layE r) by ((exfalso; omega))))) ?_
 refine w_le (s := 3) (y := pI (goodR r)) rfl (le_of_eq (congrArg (fun z : Int => pI z) (show 0 = (goodR r) by ((exfalso; omega))))) ?_
 refine w_ret ?_
 exact fin_plain (ret_tmp rfl (ret_tmp rfl ret_nil)) rfl rfl ⟨rfl,rfl,rfl⟩
end Go.Proofs.Ytljkbpgcglomfaa
set_option linter.unusedVariables false
namespace Go.Proofs.Ytljkbpgcglomfaa
open Go Go.Proofs.Ytljkbpgcglomfaa.Pv
theorem bopV_len8 (b : List UInt8) (n : Int) : (bopV b n).length ≤ 8 * b.length := by
  unfold bopV; split
  · rename_i h
    have h2 := of_decide_eq_true h
    simp; omega
  · simp
theorem takeP_len {b : List UInt8} {q : TRequest} (hb : b.length ≤ 140737488351232) (hq : b.length ≤ 17592186043904 ∨ q.count ≤ 140737488351232) : (takeP b q).bits.length ≤ 140737488351232 ∧ (takeP b q).vals.length ≤ 140737488351232 ∧ (takeP b q).data.length ≤ 140737488351232 := by
  have h1 := bopV_len8 (b.drop (min b.length 2)) q.count
  have h2 := bopV_len (b.drop (min b.length 2)) q.count
  have h3 := wordsV_len (b.drop (min b.length 2))
  have h4 : (b.drop (min b.length 2)).length ≤ b.length := by rw [List.length_drop]; omega
  have h5 : (bopV (b.drop (min b.length 2)) q.count).length ≤ 140737488351232 := by rcases hq with h|h <;> omega
  unfold takeP
  simp only
  repeat' split
  all_goals first|exact ⟨h5,Nat.zero_le _,Nat.zero_le _⟩|exact ⟨Nat.zero_le _,by simp only; omega,Nat.zero_le _⟩|exact ⟨Nat.zero_le _,Nat.zero_le _,by simp only; omega⟩|exact ⟨Nat.zero_le _,Nat.zero_le _,Nat.zero_le _⟩|exact ⟨by simp,by simp,by simp⟩
end Go.Proofs.Ytljkbpgcglomfaa
set_option linter.unusedVariables false
set_option linter.unusedSimpArgs false
set_option maxRecDepth 10000
set_option maxHeartbeats 1000000
namespace Go.Proofs.Ytljkbpgcglomfaa
open Go Go.Proofs.Ytljkbpgcglomfaa.Pv
theorem w_octet_Open_d (b : List UInt8) (cl_b : Bool) (n : Int) (hb : b.length ≤ 140737488355328) (hn : n ≤ 9223372036854775807) (hd : b.length ≤ 17592186043904 ∨ n ≤ 140737488351232) :
    T Try.prog 102 [pS 1 cl_b enc8 b,pI n] 0 [] (Ret (PV.tup [pS 1 false encBo (bopV b n),pB (bopOk b n)]) 0 []) := by
 refine t_fun tabOk (n := 53) (rs := [.tmp 4,.tmp 5]) Try.func102 rfl rfl rfl rfl (Nat.le_of_ble_eq_true rfl) ?_
 intro c hnt hk
 refine w_seq ?_
 refine w_R ?_
 refine qa hnt rfl rfl ?_
 refine qa hnt rfl rfl ?_
 refine r_end ?_
 refine q_then ?_
 refine w_seq ?_
 refine w_seq ?_
 refine w_R ?_
 refine qm hnt rfl rfl ?_
 refine qo hnt rfl (s_lss rfl rfl ?_)
 refine qm hnt rfl rfl ?_
 refine r_if tabOk hnt rfl rfl rfl (fun g1 => ?_) (fun g1 => ?_)
 ·
  have g1' := g1
  try simp only [sB] at g1'
  obtain ⟨kn,hkn⟩ : ∃ kn : Nat,n = (kn : Int) := ⟨n.toNat,by omega⟩
  refine r_eq (s := 1) (y := pN kn) rfl (congrArg (fun z : Int => pI z) (show n = ((kn : Nat) : Int) by exact hkn)) ?_
  refine qm hnt rfl rfl ?_
  refine ry hnt rfl rfl rfl g1 ?_
  refine qm hnt rfl rfl ?_
  refine ry hnt rfl rfl rfl g1 ?_
  refine qo hnt rfl (s_lenM (l := b) tab_51 rfl (hM_sl (f := enc8) rfl) ?_)
  refine ry hnt rfl rfl rfl g1 ?_
  refine qo hnt rfl (s_mulN (a := b.length) (b := 8) rfl rfl (by omega) (by omega) (by omega) ?_)
  refine ry hnt rfl rfl rfl g1 ?_
  refine qo hnt rfl (s_gtr rfl rfl ?_)
  refine qo hnt rfl (s_pick_f rfl g1 rfl ?_)
  refine qm hnt rfl rfl ?_
  refine r_if tabOk hnt rfl rfl rfl (fun g2 => ?_) (fun g2 => ?_)
  ·
   have g2' := g2
   try simp only [sB] at g2'
   refine qm hnt rfl rfl ?_
   refine ry hnt rfl rfl rfl g2 ?_
   refine qo hnt rfl (s_addN (a := kn) (b := 8) rfl rfl (by omega) (by omega) (by omega) ?_)
   refine ry hnt rfl rfl rfl g2 ?_
   refine qo hnt rfl (s_subN (a := kn + 8) (b := 1) rfl rfl (by omega) (by omega) (by omega) ?_)
   refine ry hnt rfl rfl rfl g2 ?_
   refine qo hnt rfl (s_quoN (a := kn + 8 - 1) (b := 8) rfl rfl (by omega) (by omega) (by omega) ?_)
   refine ry hnt rfl rfl rfl g2 ?_
   refine qm hnt rfl rfl ?_
   refine ry hnt rfl rfl rfl g2 ?_
   refine qo hnt rfl (s_lenM (l := b) tab_51 rfl (hM_sl (f := enc8) rfl) ?_)
   refine ry hnt rfl rfl rfl g2 ?_
   refine qo hnt rfl (s_neq rfl rfl ?_)
   refine qo hnt rfl (s_pick_f rfl g2 rfl ?_)
   refine r_end ?_
   refine q_then ?_
   refine w_if rfl (fun c1 => ?_) (fun c1 => ?_)
   ·
    have c1_ := c1
    try simp only [sB] at c1
    have eo : bopOk b n = false := bopOk_no (by omega)
    refine w_seq ?_
    refine w_R ?_
    refine qa hnt rfl rfl ?_
    refine qa hnt rfl rfl ?_
    refine r_end ?_
    refine q_then ?_
    refine w_le (s := 4) (y := pS 1 false encBo []) rfl (le_nilS 1 false) ?_
    refine w_le (s := 4) (y := pS 1 false encBo (bopV b n)) rfl (le_of_eq (congrArg (fun z => pS 1 false encBo z) (show ([] : List Bool) = (bopV b n) by (simp [bopV,eo]; done)))) ?_
    refine w_le (s := 5) (y := pB (bopOk b n)) rfl (le_of_eq (congrArg (fun z : Bool => pB z) (show false = (bopOk b n) by exact eo.symm))) ?_
    refine w_ret ?_
    refine q_then_ret ?_
    exact fin_plain (ret_tmp rfl (ret_tmp rfl ret_nil)) rfl rfl ⟨rfl,rfl,rfl⟩
   have c1_ := c1
   try simp only [sB] at c1
   have hlen : (kn + 7) / 8 = b.length := by omega
   have hbd : kn ≤ 8 * b.length := by omega
   refine w_skip ?_
   refine q_then ?_
   refine w_seq ?_
   refine w_R ?_
   refine qm hnt rfl rfl ?_
   refine qo hnt rfl (s_makeM (f := encBo) (bt := 1) tab_one false kn (fun j hj => by cases hj; rfl) tab_42 rfl tab_4 ⟨rfl,by decide⟩ rfl rfl rfl (by omega) (by refine ⟨?_, ?_, ?_⟩ <;> omega) ?_)
   refine qa hnt rfl rfl ?_
   refine r_set [(0,pS 1 cl_b enc8 b),(6,PV.ref 0 0 none)] [(0,oB true 1 encBo (List.replicate kn false))] 1 ⟨rfl,rfl,trivial⟩ rfl rfl ?_
   refine r_end ?_
   refine q_then ?_
   refine w_seq ?_
   refine w_seq ?_
   refine w_R ?_
   refine qm hnt rfl rfl ?_
   refine qo hnt rfl (s_lenM (l := List.replicate kn false) tab_42 rfl (hM_ref0 (f := encBo) rfl rfl) ?_)
   refine qm hnt rfl rfl ?_
   refine r_end ?_
   refine q_then ?_
   refine w_block ?_
   refine loop2 (fun (os : List Bool) (i : Nat) => i ≤ kn ∧ os = openT b kn i) (fun (os : List Bool) (i : Nat) => [(0,pS 1 cl_b enc8 b),(6,PV.ref 0 0 none),(29,pN ((List.replicate kn false).length)),(30,pN i)]) 1 (fun (os : List Bool) (i : Nat) => [(0,oB true 1 encBo os)]) (fun (os : List Bool) (i : Nat) => kn - i) (List.replicate kn false) (0) ?_ ⟨[(0,0)],by rw [hk]; decide,⟨⟨_,rfl,rfl,rfl⟩,⟨_,rfl,rfl,rfl⟩,⟨_,rfl,rfl,rfl⟩,⟨_,rfl,rfl,rfl⟩,trivial⟩,⟨⟨_,_,rfl,rfl,rfl,rfl⟩,trivial⟩,by rw [hk]; decide⟩ ?_
   · exact ⟨Nat.zero_le _,by rw [openT_zero]⟩
   ·
    intro os i hI
    obtain ⟨hi,ho⟩ := hI
    have hol : os.length = kn := by rw [ho,openT_length]
    refine w_seq ?_
    refine w_R ?_
    refine qo hnt rfl (s_lss rfl rfl ?_)
    refine r_end ?_
    refine q_then ?_
    refine w_seq ?_
    refine w_if rfl (fun c2 => ?_) (fun c2 => ?_)
    ·
     have c2_ := c2
     try simp only [sB] at c2
     rw [List.length_replicate] at c2
     refine w_skip ?_
     refine q_then ?_
     refine w_seq ?_
     refine w_block ?_
     refine w_seq ?_
     refine w_R ?_
     refine qm hnt rfl rfl ?_
     refine qa hnt rfl rfl ?_
     refine r_end ?_
     refine q_then ?_
     refine w_R ?_
     refine qm hnt rfl rfl ?_
     refine qm hnt rfl rfl ?_
     refine qm hnt rfl rfl ?_
     refine qm hnt rfl rfl ?_
     refine qo hnt rfl (s_quoN (a := i) (b := 8) rfl rfl (by omega) (by omega) (by omega) ?_)
     obtain ⟨e1,he1⟩ := get_of_lt b (i := i / 8) (by omega)
     refine qo hnt rfl (s_iaM (q := i / 8) (b := e1) (f := enc8) tab_51 rfl tab_5 rfl rfl (by omega) rfl he1 ?_)
     refine qo hnt rfl (s_load_ro1 tab_5 rfl rfl rfl rfl ?_)
     refine qm hnt rfl rfl ?_
     refine qo hnt rfl (s_remN (a := i) (b := 8) rfl rfl (by omega) (by omega) (by omega) ?_)
     refine qo hnt rfl (s_shr8 (a := e1) (i % 8) rfl rfl (by rfl) (by omega) ?_)
     refine qo hnt rfl (s_and8 (a := e1 >>> UInt8.ofNat (i % 8)) (b := 1) rfl rfl ?_)
     refine qo hnt rfl (s_eql8 (a := (e1 >>> UInt8.ofNat (i % 8)) &&& 1) (b := 1) rfl rfl ?_)
     refine qo hnt rfl (s_iaR0 (q := i) (f := encBo) (l := os) tab_42 rfl tab_4 rfl rfl (by omega) rfl rfl (by omega) ?_)
     obtain ⟨e2,he2⟩ := get_of_lt os (i := i) (by omega)
     refine qo hnt rfl (s_stM (y0 := e2) (z := decide ((e1 >>> UInt8.ofNat (i % 8)) &&& 1 = 1)) (f := encBo) tab_4 rfl rfl rfl rfl rfl he2 (Nat.le_of_ble_eq_true rfl) rfl rfl (by simp) rfl ?_)
     refine r_set [(0,pS 1 cl_b enc8 b),(6,PV.ref 0 0 none),(29,pN ((List.replicate kn false).length)),(30,pN i)] [(0,oB true 1 encBo (os.set i (decide ((e1 >>> UInt8.ofNat (i % 8)) &&& 1 = 1))))] 1 ⟨rfl,rfl,rfl,rfl,trivial⟩ rfl rfl ?_
     refine r_end ?_
     refine q_block ?_
     refine q_then ?_
     refine w_R ?_
     refine qo hnt rfl (s_addN (a := i) (b := 1) rfl rfl (by omega) (by omega) (by omega) ?_)
     refine qm hnt rfl rfl ?_
     refine r_end ?_
     refine q_then ?_
     refine ⟨(os.set i (decide ((e1 >>> UInt8.ofNat (i % 8)) &&& 1 = 1))),(i + 1), ?_, ?_,⟨[(0,0)],by rw [hk]; decide,⟨⟨_,rfl,rfl,rfl⟩,⟨_,rfl,rfl,rfl⟩,⟨_,rfl,rfl,rfl⟩,⟨_,rfl,rfl,rfl⟩,trivial⟩,⟨⟨_,_,rfl,rfl,rfl,rfl⟩,trivial⟩,by rw [hk]; decide⟩⟩
     ·
      refine ⟨by omega, ?_⟩
      rw [← bitOf_of he1,ho,openT_set]
     · omega
    have c2_ := c2
    try simp only [sB] at c2
    rw [List.length_replicate] at c2
    have hoe : os = (List.range kn).map (bitOf b) := by rw [ho,show i = kn by omega,openT_end]
    refine w_exit ?_
    refine q_then_exit ?_
    refine q_then_exit ?_
    refine q_block_exit ?_
    refine q_then ?_
    refine w_seq ?_
    refine w_seq ?_
    refine w_R ?_
    refine qm hnt rfl rfl ?_
    refine qo hnt rfl (s_callX (r2 := PV.ref 1 0 none) (nx1 := 2) (H2 := [(0,oB false 1 encBo os)]) (H3 := [(1,oB true 1 enc8 (packL os)),(0,oB false 1 encBo os)]) [] [] rfl rfl rfl (handed_of (by decide) trivial) rfl rfl rfl rfl rfl rfl (w_octet_Pack os false (by omega)) rfl (dist_of rfl) rfl rfl rfl rfl ?_)
    refine qm hnt rfl rfl ?_
    refine qo hnt rfl (s_callX (r2 := pB (decide ((packL os) = b))) (nx1 := 2) (H2 := [(1,oB false 1 enc8 (packL os)),(0,oB false 1 encBo os)]) (H3 := [(1,oB false 1 enc8 (packL os)),(0,oB false 1 encBo os)]) [] [] rfl rfl rfl (handed_of (by decide) trivial) rfl rfl rfl rfl rfl rfl (w_slices_Equal_byte_byte (packL os) false b cl_b (by (simp; omega))) rfl (dist_of rfl) rfl rfl rfl rfl ?_)
    refine qo hnt rfl (s_not rfl ?_)
    refine r_set [(6,PV.ref 0 0 none),(51,pB (!(decide ((packL os) = b))))] [(1,oB false 1 enc8 (packL os)),(0,oB false 1 encBo os)] 2 ⟨rfl,rfl,trivial⟩ rfl rfl ?_
    refine r_end ?_
    refine q_then ?_
    refine w_if rfl (fun c3 => ?_) (fun c3 => ?_)
    ·
     have c3_ := c3
     try simp only [sB] at c3
     have eo : bopOk b n = false := by rw [hkn,bopOk_nat ⟨hbd,hlen⟩]; exact decide_eq_false fun h => c3 (by rw [hoe]; exact (pack_bits hlen).2 h)
     refine w_seq ?_
     refine w_R ?_
     refine qa hnt rfl rfl ?_
     refine qa hnt rfl rfl ?_
     refine r_end ?_
     refine q_then ?_
     refine w_le (s := 4) (y := pS 1 false encBo []) rfl (le_nilS 1 false) ?_
     refine w_le (s := 4) (y := pS 1 false encBo (bopV b n)) rfl (le_of_eq (congrArg (fun z => pS 1 false encBo z) (show ([] : List Bool) = (bopV b n) by (simp [bopV,eo]; done)))) ?_
     refine w_le (s := 5) (y := pB (bopOk b n)) rfl (le_of_eq (congrArg (fun z : Bool => pB z) (show false = (bopOk b n) by exact eo.symm))) ?_
     refine w_ret ?_
     refine q_then_ret ?_
     exact fin_plain (ret_tmp rfl (ret_tmp rfl ret_nil)) rfl rfl ⟨rfl,rfl,rfl⟩
    have c3_ := c3
    try simp only [sB] at c3
    have eo : bopOk b n = true := by rw [hkn,bopOk_nat ⟨hbd,hlen⟩]; exact decide_eq_true ((pack_bits hlen).1 (by rw [← hoe]; simpa using c3))
    refine w_skip ?_
    refine q_then ?_
    refine w_seq ?_
    refine w_R ?_
    refine qm hnt rfl rfl ?_
    refine qa hnt rfl rfl ?_
    refine qa hnt rfl rfl ?_
    refine r_end ?_
    refine q_then ?_
    refine w_frzM (s := 4) (f := encBo) rfl rfl view_0 ?_
    refine w_le (s := 4) (y := pS 1 false encBo (bopV b n)) rfl (le_of_eq (congrArg (fun z => pS 1 false encBo z) (show os = (bopV b n) by (rw [hkn,bopV_nat (by rw [← hkn]; exact eo),hoe])))) ?_
    refine w_le (s := 5) (y := pB (bopOk b n)) rfl (le_of_eq (congrArg (fun z : Bool => pB z) (show true = (bopOk b n) by exact eo.symm))) ?_
    refine w_ret ?_
    exact fin_plain (ret_tmp rfl (ret_tmp rfl ret_nil)) rfl rfl ⟨rfl,rfl,rfl⟩
  have g2' := g2
  try simp only [sB] at g2'
  have eo : bopOk b n = false := bopOk_no (by omega)
  refine rn hnt rfl rfl rfl g2 ?_
  refine rn hnt rfl rfl rfl g2 ?_
  refine rn hnt rfl rfl rfl g2 ?_
  refine rn hnt rfl rfl rfl g2 ?_
  refine rn hnt rfl rfl rfl g2 ?_
  refine rn hnt rfl rfl rfl g2 ?_
  refine qo hnt rfl (s_pick_t rfl g2 rfl ?_)
  refine r_end ?_
  refine q_then ?_
  refine w_if rfl (fun _ => ?_) (fun e => absurd e (by decide))
  refine w_seq ?_
  refine w_R ?_
  refine qa hnt rfl rfl ?_
  refine qa hnt rfl rfl ?_
  refine r_end ?_
  refine q_then ?_
  refine w_le (s := 4) (y := pS 1 false encBo []) rfl (le_nilS 1 false) ?_
  refine w_le (s := 4) (y := pS 1 false encBo (bopV b n)) rfl (le_of_eq (congrArg (fun z => pS 1 false encBo z) (show ([] : List Bool) = (bopV b n) by (simp [bopV,eo]; done)))) ?_
  refine w_le (s := 5) (y := pB (bopOk b n)) rfl (le_of_eq (congrArg (fun z : Bool => pB z) (show false = (bopOk b n) by exact eo.symm))) ?_
  refine w_ret ?_
  refine q_then_ret ?_
  exact fin_plain (ret_tmp rfl (ret_tmp rfl ret_nil)) rfl rfl ⟨rfl,rfl,rfl⟩
 have g1' := g1
 try simp only [sB] at g1'
 have eo : bopOk b n = false := bopOk_no (by omega)
 refine rn hnt rfl rfl rfl g1 ?_
 refine rn hnt rfl rfl rfl g1 ?_
 refine rn hnt rfl rfl rfl g1 ?_
 refine rn hnt rfl rfl rfl g1 ?_
 refine qo hnt rfl (s_pick_t rfl g1 rfl ?_)
 refine qm hnt rfl rfl ?_
 refine rn hnt rfl rfl rfl rfl ?_
 refine rn hnt rfl rfl rfl rfl ?_
 refine rn hnt rfl rfl rfl rfl ?_
 refine rn hnt rfl rfl rfl rfl ?_
 refine rn hnt rfl rfl rfl rfl ?_
 refine rn hnt rfl rfl rfl rfl ?_
 refine rn hnt rfl rfl rfl rfl ?_
 refine qo hnt rfl (s_pick_t rfl rfl rfl ?_)
 refine r_end ?_
 refine q_then ?_
 refine w_if rfl (fun _ => ?_) (fun e => absurd e (by decide))
 refine w_seq ?_
 refine w_R ?_
 refine qa hnt rfl rfl ?_
 refine qa hnt rfl rfl ?_
 refine r_end ?_
 refine q_then ?_
 refine w_le (s := 4) (y := pS 1 false encBo []) rfl (le_nilS 1 false) ?_
 refine w_le (s := 4) (y := pS 1 false encBo (bopV b n)) rfl (le_of_eq (congrArg (fun z => pS 1 false encBo z) (show ([] : List Bool) = (bopV b n) by (simp [bopV,eo]; done)))) ?_
 refine w_le (s := 5) (y := pB (bopOk b n)) rfl (le_of_eq (congrArg (fun z : Bool => pB z) (show false = (bopOk b n) by exact eo.symm))) ?_
 refine w_ret ?_
 refine q_then_ret ?_
 exact fin_plain (ret_tmp rfl (ret_tmp rfl ret_nil)) rfl rfl ⟨rfl,rfl,rfl⟩
theorem w_reply_guess (b : List UInt8) (cl_b : Bool) (q : TRequest) (G : TReply) (hG : G = takeP b q) (hb : b.length ≤ 140737488351232) (h1 : 1 ≤ b.length) (hq : q.count ≤ 9223372036854775807 ∧ (b.length ≤ 17592186043904 ∨ q.count ≤ 140737488351232)) :
    T Try.prog 66 [pS 1 cl_b enc8 b,PV.f (eRequest q)] 0 [] (Ret (PV.f (eReply G)) 0 []) := by
 refine t_fun tabOk (n := 113) (rs := [.cell 4 53]) Try.func66 rfl rfl rfl rfl (Nat.le_of_ble_eq_true rfl) ?_
 intro c hnt hk
 refine w_seq ?_
 refine w_R ?_
 refine qo hnt rfl (s_box rfl rfl ?_)
 refine qo hnt rfl (s_alloc tab_53 ?_)
 refine r_set [(0,pS 1 cl_b enc8 b),(3,PV.ptr 0 0),(4,PV.ptr 1 0)] [(1,.obj [pI 0,pI 0,pI 0,pI 0,pI 0,pNil,pNil,p16 0,p16 0,pNil]),(0,.obj (cRequest q))] 2 ⟨rfl,rfl,rfl,trivial⟩ rfl rfl ?_
 refine r_end ?_
 refine q_then ?_
 refine w_seq ?_
 refine w_R ?_
 refine qm hnt rfl rfl ?_
 obtain ⟨e1,he1⟩ := get_of_lt b (i := 0) (by omega)
 refine qo hnt rfl (s_iaM (q := 0) (b := e1) (f := enc8) tab_51 rfl tab_5 rfl rfl (by omega) rfl he1 ?_)
 refine qo hnt rfl (s_load_ro1 tab_5 rfl rfl rfl rfl ?_)
 refine qo hnt rfl (s_cvN (a := UInt8.toNat e1) tab_5 tab_3 rfl rfl rfl (by omega) (by have := lt8 e1; omega) ?_)
 refine qo hnt rfl (s_fa_ptr tab_53 rfl rfl tab_3 (by decide) rfl ?_)
 refine qo hnt rfl (s_store_ptr tab_3 rfl rfl rfl rfl rfl (Nat.le_of_ble_eq_true rfl) ?_)
 refine r_set [(0,pS 1 cl_b enc8 b),(3,PV.ptr 0 0),(4,PV.ptr 1 0)] [(1,.obj [pN (UInt8.toNat e1),pI 0,pI 0,pI 0,pI 0,pNil,pNil,p16 0,p16 0,pNil]),(0,.obj (cRequest q))] 2 ⟨rfl,rfl,rfl,trivial⟩ rfl rfl ?_
 refine r_end ?_
 refine q_then ?_
 refine w_seq ?_
 refine w_seq ?_
 have hb0 : b.getD 0 0 = e1 := by rw [List.getD_eq_getElem?_getD,he1]; rfl
 have hel := e1.toNat_lt
 refine w_R ?_
 refine qo hnt rfl (s_fa_ptr tab_53 rfl rfl tab_3 (by decide) rfl ?_)
 refine qo hnt rfl (s_load_ptr1 tab_3 rfl rfl rfl rfl rfl ?_)
 refine qo hnt rfl (s_geq rfl rfl ?_)
 refine r_end ?_
 refine q_then ?_
 refine w_if rfl (fun c1 => ?_) (fun c1 => ?_)
 ·
  have c1_ := c1
  try simp only [sB] at c1
  refine w_seq ?_
  refine w_R ?_
  refine qo hnt rfl (s_fa_ptr tab_53 rfl rfl tab_3 (by decide) rfl ?_)
  refine qo hnt rfl (s_load_ptr1 tab_3 rfl rfl rfl rfl rfl ?_)
  refine qo hnt rfl (s_subi (r := ((UInt8.toNat e1 : Nat) : Int) - 128) rfl rfl rfl (by omega) ?_)
  refine qo hnt rfl (s_fa_ptr tab_53 rfl rfl tab_3 (by decide) rfl ?_)
  refine qo hnt rfl (s_store_ptr tab_3 rfl rfl rfl rfl rfl (Nat.le_of_ble_eq_true rfl) ?_)
  refine r_set [(0,pS 1 cl_b enc8 b),(4,PV.ptr 1 0)] [(1,.obj [pI (((UInt8.toNat e1 : Nat) : Int) - 128),pI 0,pI 0,pI 0,pI 0,pNil,pNil,p16 0,p16 0,pNil]),(0,.obj (cRequest q))] 2 ⟨rfl,rfl,trivial⟩ rfl rfl ?_
  refine r_end ?_
  refine q_then ?_
  refine w_seq ?_
  refine w_seq ?_
  refine w_R ?_
  refine qm hnt rfl rfl ?_
  refine qo hnt rfl (s_lenM (l := b) tab_51 rfl (hM_sl (f := enc8) rfl) ?_)
  refine qo hnt rfl (s_gtr rfl rfl ?_)
  refine r_end ?_
  refine q_then ?_
  refine w_if rfl (fun c2 => ?_) (fun c2 => ?_)
  ·
   have c2_ := c2
   try simp only [sB] at c2
   refine w_R ?_
   refine qm hnt rfl rfl ?_
   obtain ⟨e2,he2⟩ := get_of_lt b (i := 1) (by omega)
   refine qo hnt rfl (s_iaM (q := 1) (b := e2) (f := enc8) tab_51 rfl tab_5 rfl rfl (by omega) rfl he2 ?_)
   refine qo hnt rfl (s_load_ro1 tab_5 rfl rfl rfl rfl ?_)
   refine qo hnt rfl (s_cvN (a := UInt8.toNat e2) tab_5 tab_3 rfl rfl rfl (by omega) (by have := lt8 e2; omega) ?_)
   refine qo hnt rfl (s_fa_ptr tab_53 rfl rfl tab_3 (by decide) rfl ?_)
   refine qo hnt rfl (s_store_ptr tab_3 rfl rfl rfl rfl rfl (Nat.le_of_ble_eq_true rfl) ?_)
   refine r_set [(4,PV.ptr 1 0)] [(1,.obj [pI (((UInt8.toNat e1 : Nat) : Int) - 128),pN (UInt8.toNat e2),pI 0,pI 0,pI 0,pNil,pNil,p16 0,p16 0,pNil]),(0,.obj (cRequest q))] 2 ⟨rfl,trivial⟩ rfl rfl ?_
   refine r_end ?_
   refine q_then ?_
   refine w_seq ?_
   refine w_R ?_
   refine qo hnt rfl (s_load_ptr tab_53 rfl rfl rfl (Nat.le_of_ble_eq_true rfl) ?_)
   refine qo hnt rfl (s_store_ptr tab_53 rfl rfl rfl rfl rfl (Nat.le_of_ble_eq_true rfl) ?_)
   refine r_set [(4,PV.ptr 1 0)] [(1,.obj [pI (((UInt8.toNat e1 : Nat) : Int) - 128),pN (UInt8.toNat e2),pI 0,pI 0,pI 0,pNil,pNil,p16 0,p16 0,pNil]),(0,.obj (cRequest q))] 2 ⟨rfl,trivial⟩ rfl rfl ?_
   refine r_end ?_
   refine q_then ?_
   have hz1 : (((UInt8.toNat e1 : Nat) : Int) - 128) = G.fn ∧ ((UInt8.toNat e2 : Nat) : Int) = G.code ∧ 0 = G.at_ ∧ 0 = G.count ∧ 0 = G.sub ∧ ([] : List Bool) = G.bits ∧ ([] : List UInt16) = G.vals ∧ 0 = G.and_ ∧ 0 = G.or_ ∧ ([] : List UInt8) = G.data := by refine ⟨?_, ?_, ?_, ?_, ?_, ?_, ?_, ?_, ?_, ?_⟩ <;> ((rw [hG,takeP_no hb0 (by omega),codeG_1 (by omega) he2]; done))
   refine w_leO (n := 1) (ds := cReply G) rfl ⟨le_of_eq (congrArg (fun z : Int => pI z) hz1.1),le_of_eq (congrArg (fun z : Int => pI z) hz1.2.1),le_of_eq (congrArg (fun z : Int => pI z) hz1.2.2.1),le_of_eq (congrArg (fun z : Int => pI z) hz1.2.2.2.1),le_of_eq (congrArg (fun z : Int => pI z) hz1.2.2.2.2.1),le_tr (le_nilS 1 false) (le_of_eq (congrArg (fun z => pS 1 false encBo z) hz1.2.2.2.2.2.1)),le_tr (le_nilS 1 false) (le_of_eq (congrArg (fun z => pS 1 false enc16 z) hz1.2.2.2.2.2.2.1)),le_of_eq (congrArg (fun z : UInt16 => p16 z) hz1.2.2.2.2.2.2.2.1),le_of_eq (congrArg (fun z : UInt16 => p16 z) hz1.2.2.2.2.2.2.2.2.1),le_tr (le_nilS 1 false) (le_of_eq (congrArg (fun z => pS 1 false enc8 z) hz1.2.2.2.2.2.2.2.2.2)),trivial⟩ ?_
   refine w_ret ?_
   refine q_then_ret ?_
   exact fin_plain (ret_cell tab_53 (by decide) rfl rfl (Nat.le_of_ble_eq_true rfl) rfl ret_nil) rfl rfl ⟨rfl,rfl,rfl⟩
  have c2_ := c2
  try simp only [sB] at c2
  refine w_skip ?_
  refine q_then ?_
  refine w_seq ?_
  refine w_R ?_
  refine qo hnt rfl (s_load_ptr tab_53 rfl rfl rfl (Nat.le_of_ble_eq_true rfl) ?_)
  refine qo hnt rfl (s_store_ptr tab_53 rfl rfl rfl rfl rfl (Nat.le_of_ble_eq_true rfl) ?_)
  refine r_set [(4,PV.ptr 1 0)] [(1,.obj [pI (((UInt8.toNat e1 : Nat) : Int) - 128),pI 0,pI 0,pI 0,pI 0,pNil,pNil,p16 0,p16 0,pNil]),(0,.obj (cRequest q))] 2 ⟨rfl,trivial⟩ rfl rfl ?_
  refine r_end ?_
  refine q_then ?_
  have hz2 : (((UInt8.toNat e1 : Nat) : Int) - 128) = G.fn ∧ 0 = G.code ∧ 0 = G.at_ ∧ 0 = G.count ∧ 0 = G.sub ∧ ([] : List Bool) = G.bits ∧ ([] : List UInt16) = G.vals ∧ 0 = G.and_ ∧ 0 = G.or_ ∧ ([] : List UInt8) = G.data := by refine ⟨?_, ?_, ?_, ?_, ?_, ?_, ?_, ?_, ?_, ?_⟩ <;> ((rw [hG,takeP_no hb0 (by omega),codeG_0 (by omega)]; done))
  refine w_leO (n := 1) (ds := cReply G) rfl ⟨le_of_eq (congrArg (fun z : Int => pI z) hz2.1),le_of_eq (congrArg (fun z : Int => pI z) hz2.2.1),le_of_eq (congrArg (fun z : Int => pI z) hz2.2.2.1),le_of_eq (congrArg (fun z : Int => pI z) hz2.2.2.2.1),le_of_eq (congrArg (fun z : Int => pI z) hz2.2.2.2.2.1),le_tr (le_nilS 1 false) (le_of_eq (congrArg (fun z => pS 1 false encBo z) hz2.2.2.2.2.2.1)),le_tr (le_nilS 1 false) (le_of_eq (congrArg (fun z => pS 1 false enc16 z) hz2.2.2.2.2.2.2.1)),le_of_eq (congrArg (fun z : UInt16 => p16 z) hz2.2.2.2.2.2.2.2.1),le_of_eq (congrArg (fun z : UInt16 => p16 z) hz2.2.2.2.2.2.2.2.2.1),le_tr (le_nilS 1 false) (le_of_eq (congrArg (fun z => pS 1 false enc8 z) hz2.2.2.2.2.2.2.2.2.2)),trivial⟩ ?_
  refine w_ret ?_
  refine q_then_ret ?_
  exact fin_plain (ret_cell tab_53 (by decide) rfl rfl (Nat.le_of_ble_eq_true rfl) rfl ret_nil) rfl rfl ⟨rfl,rfl,rfl⟩
 have c1_ := c1
 try simp only [sB] at c1
 refine w_skip ?_
 refine q_then ?_
 refine w_seq ?_
 refine w_R ?_
 refine qm hnt rfl rfl ?_
 refine qm hnt rfl rfl ?_
 refine qo hnt rfl (s_lenM (l := b) tab_51 rfl (hM_sl (f := enc8) rfl) ?_)
 refine qo hnt rfl (s_minN (a := b.length) (b := 2) rfl (by omega) (by omega) ?_)
 refine qo hnt rfl (s_cutM_lo (a := min b.length 2) (f := enc8) (l := b) tab_51 rfl tab_5 ⟨rfl,by decide⟩ rfl (bound_some rfl (by omega)) (by omega) ?_)
 refine qa hnt rfl rfl ?_
 refine r_end ?_
 refine q_then ?_
 refine w_seq ?_
 refine w_seq ?_
 refine w_R ?_
 refine qo hnt rfl (s_fa_ptr tab_53 rfl rfl tab_3 (by decide) rfl ?_)
 refine qo hnt rfl (s_load_ptr1 tab_3 rfl rfl rfl rfl rfl ?_)
 refine r_end ?_
 refine q_then ?_
 refine w_block ?_
 refine w_seq ?_
 refine w_seq ?_
 refine w_R ?_
 refine qo hnt rfl (s_eql rfl rfl ?_)
 refine qa hnt rfl rfl ?_
 refine r_end ?_
 refine q_then ?_
 refine w_if rfl (fun c3 => ?_) (fun c3 => ?_)
 ·
  have c3_ := c3
  try simp only [sB] at c3
  refine w_skip ?_
  refine q_then ?_
  refine w_if rfl (fun _ => ?_) (fun e => absurd (e.symm.trans c3_) (by decide))
  refine w_R ?_
  refine qm hnt rfl rfl ?_
  refine qo hnt rfl (s_fa_ptr tab_46 rfl rfl tab_3 (by decide) rfl ?_)
  refine qo hnt rfl (s_load_ptr1 tab_3 rfl rfl rfl rfl rfl ?_)
  refine qo hnt rfl (s_callF rfl rfl rfl (w_octet_Open_d (b.drop (min b.length 2)) cl_b q.count (by rw [List.length_drop]; omega) (by omega) (by rw [List.length_drop]; omega)) rfl ?_)
  refine qm hnt rfl rfl ?_
  refine qo hnt rfl (s_extract rfl rfl ?_)
  refine qo hnt rfl (s_extract rfl rfl ?_)
  refine qo hnt rfl (s_fa_ptr tab_53 rfl rfl tab_42 (by decide) rfl ?_)
  refine qo hnt rfl (s_store_ptr tab_42 rfl rfl rfl rfl rfl (Nat.le_of_ble_eq_true rfl) ?_)
  refine r_set [(4,PV.ptr 1 0)] [(1,.obj [pN (UInt8.toNat e1),pI 0,pI 0,pI 0,pI 0,pS 1 false encBo (bopV (b.drop (min b.length 2)) q.count),pNil,p16 0,p16 0,pNil]),(0,.obj (cRequest q))] 2 ⟨rfl,trivial⟩ rfl rfl ?_
  refine r_end ?_
  refine q_block ?_
  refine q_then ?_
  refine w_seq ?_
  refine w_R ?_
  refine qo hnt rfl (s_load_ptr tab_53 rfl rfl rfl (Nat.le_of_ble_eq_true rfl) ?_)
  refine qo hnt rfl (s_store_ptr tab_53 rfl rfl rfl rfl rfl (Nat.le_of_ble_eq_true rfl) ?_)
  refine r_set [(4,PV.ptr 1 0)] [(1,.obj [pN (UInt8.toNat e1),pI 0,pI 0,pI 0,pI 0,pS 1 false encBo (bopV (b.drop (min b.length 2)) q.count),pNil,p16 0,p16 0,pNil]),(0,.obj (cRequest q))] 2 ⟨rfl,trivial⟩ rfl rfl ?_
  refine r_end ?_
  refine q_then ?_
  have hz3 : ((UInt8.toNat e1 : Nat) : Int) = G.fn ∧ 0 = G.code ∧ 0 = G.at_ ∧ 0 = G.count ∧ 0 = G.sub ∧ (bopV (b.drop (min b.length 2)) q.count) = G.bits ∧ ([] : List UInt16) = G.vals ∧ 0 = G.and_ ∧ 0 = G.or_ ∧ ([] : List UInt8) = G.data := by refine ⟨?_, ?_, ?_, ?_, ?_, ?_, ?_, ?_, ?_, ?_⟩ <;> ((rw [hG,takeP_1 hb0 (by omega) (by omega)]; done))
  refine w_leO (n := 1) (ds := cReply G) rfl ⟨le_of_eq (congrArg (fun z : Int => pI z) hz3.1),le_of_eq (congrArg (fun z : Int => pI z) hz3.2.1),le_of_eq (congrArg (fun z : Int => pI z) hz3.2.2.1),le_of_eq (congrArg (fun z : Int => pI z) hz3.2.2.2.1),le_of_eq (congrArg (fun z : Int => pI z) hz3.2.2.2.2.1),le_of_eq (congrArg (fun z => pS 1 false encBo z) hz3.2.2.2.2.2.1),le_tr (le_nilS 1 false) (le_of_eq (congrArg (fun z => pS 1 false enc16 z) hz3.2.2.2.2.2.2.1)),le_of_eq (congrArg (fun z : UInt16 => p16 z) hz3.2.2.2.2.2.2.2.1),le_of_eq (congrArg (fun z : UInt16 => p16 z) hz3.2.2.2.2.2.2.2.2.1),le_tr (le_nilS 1 false) (le_of_eq (congrArg (fun z => pS 1 false enc8 z) hz3.2.2.2.2.2.2.2.2.2)),trivial⟩ ?_
  refine w_ret ?_
  exact fin_plain (ret_cell tab_53 (by decide) rfl rfl (Nat.le_of_ble_eq_true rfl) rfl ret_nil) rfl rfl ⟨rfl,rfl,rfl⟩
 have c3_ := c3
 try simp only [sB] at c3
 refine w_R ?_
 refine qo hnt rfl (s_eql rfl rfl ?_)
 refine qa hnt rfl rfl ?_
 refine r_end ?_
 refine q_then ?_
 refine w_if rfl (fun c4 => ?_) (fun c4 => ?_)
 ·
  have c4_ := c4
  try simp only [sB] at c4
  refine w_R ?_
  refine qm hnt rfl rfl ?_
  refine qo hnt rfl (s_fa_ptr tab_46 rfl rfl tab_3 (by decide) rfl ?_)
  refine qo hnt rfl (s_load_ptr1 tab_3 rfl rfl rfl rfl rfl ?_)
  refine qo hnt rfl (s_callF rfl rfl rfl (w_octet_Open_d (b.drop (min b.length 2)) cl_b q.count (by rw [List.length_drop]; omega) (by omega) (by rw [List.length_drop]; omega)) rfl ?_)
  refine qm hnt rfl rfl ?_
  refine qo hnt rfl (s_extract rfl rfl ?_)
  refine qo hnt rfl (s_extract rfl rfl ?_)
  refine qo hnt rfl (s_fa_ptr tab_53 rfl rfl tab_42 (by decide) rfl ?_)
  refine qo hnt rfl (s_store_ptr tab_42 rfl rfl rfl rfl rfl (Nat.le_of_ble_eq_true rfl) ?_)
  refine r_set [(4,PV.ptr 1 0)] [(1,.obj [pN (UInt8.toNat e1),pI 0,pI 0,pI 0,pI 0,pS 1 false encBo (bopV (b.drop (min b.length 2)) q.count),pNil,p16 0,p16 0,pNil]),(0,.obj (cRequest q))] 2 ⟨rfl,trivial⟩ rfl rfl ?_
  refine r_end ?_
  refine q_block ?_
  refine q_then ?_
  refine w_seq ?_
  refine w_R ?_
  refine qo hnt rfl (s_load_ptr tab_53 rfl rfl rfl (Nat.le_of_ble_eq_true rfl) ?_)
  refine qo hnt rfl (s_store_ptr tab_53 rfl rfl rfl rfl rfl (Nat.le_of_ble_eq_true rfl) ?_)
  refine r_set [(4,PV.ptr 1 0)] [(1,.obj [pN (UInt8.toNat e1),pI 0,pI 0,pI 0,pI 0,pS 1 false encBo (bopV (b.drop (min b.length 2)) q.count),pNil,p16 0,p16 0,pNil]),(0,.obj (cRequest q))] 2 ⟨rfl,trivial⟩ rfl rfl ?_
  refine r_end ?_
  refine q_then ?_
  have hz4 : ((UInt8.toNat e1 : Nat) : Int) = G.fn ∧ 0 = G.code ∧ 0 = G.at_ ∧ 0 = G.count ∧ 0 = G.sub ∧ (bopV (b.drop (min b.length 2)) q.count) = G.bits ∧ ([] : List UInt16) = G.vals ∧ 0 = G.and_ ∧ 0 = G.or_ ∧ ([] : List UInt8) = G.data := by refine ⟨?_, ?_, ?_, ?_, ?_, ?_, ?_, ?_, ?_, ?_⟩ <;> ((rw [hG,takeP_1 hb0 (by omega) (by omega)]; done))
  refine w_leO (n := 1) (ds := cReply G) rfl ⟨le_of_eq (congrArg (fun z : Int => pI z) hz4.1),le_of_eq (congrArg (fun z : Int => pI z) hz4.2.1),le_of_eq (congrArg (fun z : Int => pI z) hz4.2.2.1),le_of_eq (congrArg (fun z : Int => pI z) hz4.2.2.2.1),le_of_eq (congrArg (fun z : Int => pI z) hz4.2.2.2.2.1),le_of_eq (congrArg (fun z => pS 1 false encBo z) hz4.2.2.2.2.2.1),le_tr (le_nilS 1 false) (le_of_eq (congrArg (fun z => pS 1 false enc16 z) hz4.2.2.2.2.2.2.1)),le_of_eq (congrArg (fun z : UInt16 => p16 z) hz4.2.2.2.2.2.2.2.1),le_of_eq (congrArg (fun z : UInt16 => p16 z) hz4.2.2.2.2.2.2.2.2.1),le_tr (le_nilS 1 false) (le_of_eq (congrArg (fun z => pS 1 false enc8 z) hz4.2.2.2.2.2.2.2.2.2)),trivial⟩ ?_
  refine w_ret ?_
  exact fin_plain (ret_cell tab_53 (by decide) rfl rfl (Nat.le_of_ble_eq_true rfl) rfl ret_nil) rfl rfl ⟨rfl,rfl,rfl⟩
 have c4_ := c4
 try simp only [sB] at c4
 refine w_seq ?_
 refine w_seq ?_
 refine w_R ?_
 refine qo hnt rfl (s_eql rfl rfl ?_)
 refine qa hnt rfl rfl ?_
 refine r_end ?_
 refine q_then ?_
 refine w_if rfl (fun c5 => ?_) (fun c5 => ?_)
 ·
  have c5_ := c5
  try simp only [sB] at c5
  refine w_skip ?_
  refine q_then ?_
  refine w_if rfl (fun _ => ?_) (fun e => absurd (e.symm.trans c5_) (by decide))
  refine w_R ?_
  refine qm hnt rfl rfl ?_
  refine qo hnt rfl (s_callF rfl rfl rfl (w_octet_Words (b.drop (min b.length 2)) cl_b (by (simp; omega))) rfl ?_)
  refine qm hnt rfl rfl ?_
  refine qo hnt rfl (s_extract rfl rfl ?_)
  refine qo hnt rfl (s_extract rfl rfl ?_)
  refine qo hnt rfl (s_fa_ptr tab_53 rfl rfl tab_43 (by decide) rfl ?_)
  refine qo hnt rfl (s_store_ptr tab_43 rfl rfl rfl rfl rfl (Nat.le_of_ble_eq_true rfl) ?_)
  refine r_set [(4,PV.ptr 1 0)] [(1,.obj [pN (UInt8.toNat e1),pI 0,pI 0,pI 0,pI 0,pNil,pS 1 false enc16 (wordsV (b.drop (min b.length 2))),p16 0,p16 0,pNil]),(0,.obj (cRequest q))] 2 ⟨rfl,trivial⟩ rfl rfl ?_
  refine r_end ?_
  refine q_block ?_
  refine q_then ?_
  refine w_seq ?_
  refine w_R ?_
  refine qo hnt rfl (s_load_ptr tab_53 rfl rfl rfl (Nat.le_of_ble_eq_true rfl) ?_)
  refine qo hnt rfl (s_store_ptr tab_53 rfl rfl rfl rfl rfl (Nat.le_of_ble_eq_true rfl) ?_)
  refine r_set [(4,PV.ptr 1 0)] [(1,.obj [pN (UInt8.toNat e1),pI 0,pI 0,pI 0,pI 0,pNil,pS 1 false enc16 (wordsV (b.drop (min b.length 2))),p16 0,p16 0,pNil]),(0,.obj (cRequest q))] 2 ⟨rfl,trivial⟩ rfl rfl ?_
  refine r_end ?_
  refine q_then ?_
  have hz5 : ((UInt8.toNat e1 : Nat) : Int) = G.fn ∧ 0 = G.code ∧ 0 = G.at_ ∧ 0 = G.count ∧ 0 = G.sub ∧ ([] : List Bool) = G.bits ∧ (wordsV (b.drop (min b.length 2))) = G.vals ∧ 0 = G.and_ ∧ 0 = G.or_ ∧ ([] : List UInt8) = G.data := by refine ⟨?_, ?_, ?_, ?_, ?_, ?_, ?_, ?_, ?_, ?_⟩ <;> ((rw [hG,takeP_3 hb0 (by omega) (by omega)]; done))
  refine w_leO (n := 1) (ds := cReply G) rfl ⟨le_of_eq (congrArg (fun z : Int => pI z) hz5.1),le_of_eq (congrArg (fun z : Int => pI z) hz5.2.1),le_of_eq (congrArg (fun z : Int => pI z) hz5.2.2.1),le_of_eq (congrArg (fun z : Int => pI z) hz5.2.2.2.1),le_of_eq (congrArg (fun z : Int => pI z) hz5.2.2.2.2.1),le_tr (le_nilS 1 false) (le_of_eq (congrArg (fun z => pS 1 false encBo z) hz5.2.2.2.2.2.1)),le_of_eq (congrArg (fun z => pS 1 false enc16 z) hz5.2.2.2.2.2.2.1),le_of_eq (congrArg (fun z : UInt16 => p16 z) hz5.2.2.2.2.2.2.2.1),le_of_eq (congrArg (fun z : UInt16 => p16 z) hz5.2.2.2.2.2.2.2.2.1),le_tr (le_nilS 1 false) (le_of_eq (congrArg (fun z => pS 1 false enc8 z) hz5.2.2.2.2.2.2.2.2.2)),trivial⟩ ?_
  refine w_ret ?_
  exact fin_plain (ret_cell tab_53 (by decide) rfl rfl (Nat.le_of_ble_eq_true rfl) rfl ret_nil) rfl rfl ⟨rfl,rfl,rfl⟩
 have c5_ := c5
 try simp only [sB] at c5
 refine w_seq ?_
 refine w_R ?_
 refine qo hnt rfl (s_eql rfl rfl ?_)
 refine qa hnt rfl rfl ?_
 refine r_end ?_
 refine q_then ?_
 refine w_if rfl (fun c6 => ?_) (fun c6 => ?_)
 ·
  have c6_ := c6
  try simp only [sB] at c6
  refine w_skip ?_
  refine q_then ?_
  refine w_if rfl (fun _ => ?_) (fun e => absurd (e.symm.trans c6_) (by decide))
  refine w_R ?_
  refine qm hnt rfl rfl ?_
  refine qo hnt rfl (s_callF rfl rfl rfl (w_octet_Words (b.drop (min b.length 2)) cl_b (by (simp; omega))) rfl ?_)
  refine qm hnt rfl rfl ?_
  refine qo hnt rfl (s_extract rfl rfl ?_)
  refine qo hnt rfl (s_extract rfl rfl ?_)
  refine qo hnt rfl (s_fa_ptr tab_53 rfl rfl tab_43 (by decide) rfl ?_)
  refine qo hnt rfl (s_store_ptr tab_43 rfl rfl rfl rfl rfl (Nat.le_of_ble_eq_true rfl) ?_)
  refine r_set [(4,PV.ptr 1 0)] [(1,.obj [pN (UInt8.toNat e1),pI 0,pI 0,pI 0,pI 0,pNil,pS 1 false enc16 (wordsV (b.drop (min b.length 2))),p16 0,p16 0,pNil]),(0,.obj (cRequest q))] 2 ⟨rfl,trivial⟩ rfl rfl ?_
  refine r_end ?_
  refine q_block ?_
  refine q_then ?_
  refine w_seq ?_
  refine w_R ?_
  refine qo hnt rfl (s_load_ptr tab_53 rfl rfl rfl (Nat.le_of_ble_eq_true rfl) ?_)
  refine qo hnt rfl (s_store_ptr tab_53 rfl rfl rfl rfl rfl (Nat.le_of_ble_eq_true rfl) ?_)
  refine r_set [(4,PV.ptr 1 0)] [(1,.obj [pN (UInt8.toNat e1),pI 0,pI 0,pI 0,pI 0,pNil,pS 1 false enc16 (wordsV (b.drop (min b.length 2))),p16 0,p16 0,pNil]),(0,.obj (cRequest q))] 2 ⟨rfl,trivial⟩ rfl rfl ?_
  refine r_end ?_
  refine q_then ?_
  have hz6 : ((UInt8.toNat e1 : Nat) : Int) = G.fn ∧ 0 = G.code ∧ 0 = G.at_ ∧ 0 = G.count ∧ 0 = G.sub ∧ ([] : List Bool) = G.bits ∧ (wordsV (b.drop (min b.length 2))) = G.vals ∧ 0 = G.and_ ∧ 0 = G.or_ ∧ ([] : List UInt8) = G.data := by refine ⟨?_, ?_, ?_, ?_, ?_, ?_, ?_, ?_, ?_, ?_⟩ <;> ((rw [hG,takeP_3 hb0 (by omega) (by omega)]; done))
  refine w_leO (n := 1) (ds := cReply G) rfl ⟨le_of_eq (congrArg (fun z : Int => pI z) hz6.1),le_of_eq (congrArg (fun z : Int => pI z) hz6.2.1),le_of_eq (congrArg (fun z : Int => pI z) hz6.2.2.1),le_of_eq (congrArg (fun z : Int => pI z) hz6.2.2.2.1),le_of_eq (congrArg (fun z : Int => pI z) hz6.2.2.2.2.1),le_tr (le_nilS 1 false) (le_of_eq (congrArg (fun z => pS 1 false encBo z) hz6.2.2.2.2.2.1)),le_of_eq (congrArg (fun z => pS 1 false enc16 z) hz6.2.2.2.2.2.2.1),le_of_eq (congrArg (fun z : UInt16 => p16 z) hz6.2.2.2.2.2.2.2.1),le_of_eq (congrArg (fun z : UInt16 => p16 z) hz6.2.2.2.2.2.2.2.2.1),le_tr (le_nilS 1 false) (le_of_eq (congrArg (fun z => pS 1 false enc8 z) hz6.2.2.2.2.2.2.2.2.2)),trivial⟩ ?_
  refine w_ret ?_
  exact fin_plain (ret_cell tab_53 (by decide) rfl rfl (Nat.le_of_ble_eq_true rfl) rfl ret_nil) rfl rfl ⟨rfl,rfl,rfl⟩
 have c6_ := c6
 try simp only [sB] at c6
 refine w_R ?_
 refine qo hnt rfl (s_eql rfl rfl ?_)
 refine qa hnt rfl rfl ?_
 refine r_end ?_
 refine q_then ?_
 refine w_if rfl (fun c7 => ?_) (fun c7 => ?_)
 ·
  have c7_ := c7
  try simp only [sB] at c7
  refine w_R ?_
  refine qm hnt rfl rfl ?_
  refine qo hnt rfl (s_callF rfl rfl rfl (w_octet_Words (b.drop (min b.length 2)) cl_b (by (simp; omega))) rfl ?_)
  refine qm hnt rfl rfl ?_
  refine qo hnt rfl (s_extract rfl rfl ?_)
  refine qo hnt rfl (s_extract rfl rfl ?_)
  refine qo hnt rfl (s_fa_ptr tab_53 rfl rfl tab_43 (by decide) rfl ?_)
  refine qo hnt rfl (s_store_ptr tab_43 rfl rfl rfl rfl rfl (Nat.le_of_ble_eq_true rfl) ?_)
  refine r_set [(4,PV.ptr 1 0)] [(1,.obj [pN (UInt8.toNat e1),pI 0,pI 0,pI 0,pI 0,pNil,pS 1 false enc16 (wordsV (b.drop (min b.length 2))),p16 0,p16 0,pNil]),(0,.obj (cRequest q))] 2 ⟨rfl,trivial⟩ rfl rfl ?_
  refine r_end ?_
  refine q_block ?_
  refine q_then ?_
  refine w_seq ?_
  refine w_R ?_
  refine qo hnt rfl (s_load_ptr tab_53 rfl rfl rfl (Nat.le_of_ble_eq_true rfl) ?_)
  refine qo hnt rfl (s_store_ptr tab_53 rfl rfl rfl rfl rfl (Nat.le_of_ble_eq_true rfl) ?_)
  refine r_set [(4,PV.ptr 1 0)] [(1,.obj [pN (UInt8.toNat e1),pI 0,pI 0,pI 0,pI 0,pNil,pS 1 false enc16 (wordsV (b.drop (min b.length 2))),p16 0,p16 0,pNil]),(0,.obj (cRequest q))] 2 ⟨rfl,trivial⟩ rfl rfl ?_
  refine r_end ?_
  refine q_then ?_
  have hz7 : ((UInt8.toNat e1 : Nat) : Int) = G.fn ∧ 0 = G.code ∧ 0 = G.at_ ∧ 0 = G.count ∧ 0 = G.sub ∧ ([] : List Bool) = G.bits ∧ (wordsV (b.drop (min b.length 2))) = G.vals ∧ 0 = G.and_ ∧ 0 = G.or_ ∧ ([] : List UInt8) = G.data := by refine ⟨?_, ?_, ?_, ?_, ?_, ?_, ?_, ?_, ?_, ?_⟩ <;> ((rw [hG,takeP_3 hb0 (by omega) (by omega)]; done))
  refine w_leO (n := 1) (ds := cReply G) rfl ⟨le_of_eq (congrArg (fun z : Int => pI z) hz7.1),le_of_eq (congrArg (fun z : Int => pI z) hz7.2.1),le_of_eq (congrArg (fun z : Int => pI z) hz7.2.2.1),le_of_eq (congrArg (fun z : Int => pI z) hz7.2.2.2.1),le_of_eq (congrArg (fun z : Int => pI z) hz7.2.2.2.2.1),le_tr (le_nilS 1 false) (le_of_eq (congrArg (fun z => pS 1 false encBo z) hz7.2.2.2.2.2.1)),le_of_eq (congrArg (fun z => pS 1 false enc16 z) hz7.2.2.2.2.2.2.1),le_of_eq (congrArg (fun z : UInt16 => p16 z) hz7.2.2.2.2.2.2.2.1),le_of_eq (congrArg (fun z : UInt16 => p16 z) hz7.2.2.2.2.2.2.2.2.1),le_tr (le_nilS 1 false) (le_of_eq (congrArg (fun z => pS 1 false enc8 z) hz7.2.2.2.2.2.2.2.2.2)),trivial⟩ ?_
  refine w_ret ?_
  exact fin_plain (ret_cell tab_53 (by decide) rfl rfl (Nat.le_of_ble_eq_true rfl) rfl ret_nil) rfl rfl ⟨rfl,rfl,rfl⟩
 have c7_ := c7
 try simp only [sB] at c7
 refine w_seq ?_
 refine w_R ?_
 refine qo hnt rfl (s_eql rfl rfl ?_)
 refine qa hnt rfl rfl ?_
 refine r_end ?_
 refine q_then ?_
 refine w_if rfl (fun c8 => ?_) (fun c8 => ?_)
 ·
  have c8_ := c8
  try simp only [sB] at c8
  refine w_R ?_
  refine qm hnt rfl rfl ?_
  refine qo hnt rfl (s_callF rfl rfl rfl (w_reply_num b cl_b 0 (by omega) (by omega)) rfl ?_)
  refine qm hnt rfl rfl ?_
  refine qo hnt rfl (s_callF rfl rfl rfl (w_reply_num b cl_b 1 (by omega) (by omega)) rfl ?_)
  refine qo hnt rfl (s_eql rfl rfl ?_)
  refine qo hnt rfl (s_mkM (f := encBo) [decide (getV b (1 + 2 * (1 : Int)) = 65280)] tab_42 rfl tab_4 ⟨rfl,by decide⟩ (by decide) rfl rfl rfl rfl ?_)
  refine qo hnt rfl (s_fa_ptr tab_53 rfl rfl tab_3 (by decide) rfl ?_)
  refine qo hnt rfl (s_store_ptr tab_3 rfl rfl rfl rfl rfl (Nat.le_of_ble_eq_true rfl) ?_)
  refine qo hnt rfl (s_fa_ptr tab_53 rfl rfl tab_42 (by decide) rfl ?_)
  refine qo hnt rfl (s_store_ptr tab_42 rfl rfl rfl rfl rfl (Nat.le_of_ble_eq_true rfl) ?_)
  refine r_set [(4,PV.ptr 1 0)] [(1,.obj [pN (UInt8.toNat e1),pI 0,pI (getV b (1 + 2 * (0 : Int))),pI 0,pI 0,PV.ref 2 0 none,pNil,p16 0,p16 0,pNil]),(2,oB true 1 encBo [decide (getV b (1 + 2 * (1 : Int)) = 65280)]),(0,.obj (cRequest q))] 3 ⟨rfl,trivial⟩ rfl rfl ?_
  refine r_end ?_
  refine q_block ?_
  refine q_then ?_
  refine w_seq ?_
  refine w_R ?_
  refine qo hnt rfl (s_load_ptr tab_53 rfl rfl rfl (Nat.le_of_ble_eq_true rfl) ?_)
  refine qo hnt rfl (s_store_ptr tab_53 rfl rfl rfl rfl rfl (Nat.le_of_ble_eq_true rfl) ?_)
  refine r_set [(4,PV.ptr 1 0)] [(1,.obj [pN (UInt8.toNat e1),pI 0,pI (getV b (1 + 2 * (0 : Int))),pI 0,pI 0,PV.ref 2 0 none,pNil,p16 0,p16 0,pNil]),(2,oB true 1 encBo [decide (getV b (1 + 2 * (1 : Int)) = 65280)]),(0,.obj (cRequest q))] 3 ⟨rfl,trivial⟩ rfl rfl ?_
  refine r_end ?_
  refine q_then ?_
  refine w_frzC (n := 1) (j := 5) rfl rfl rfl rfl ?_
  have hz8 : ([decide (getV b (1 + 2 * (1 : Int)) = 65280)] : List Bool) = G.bits := by ((rw [hG,takeP_5 hb0 (by omega) (by omega)]; rfl))
  refine w_leO (n := 1) (ds := [pN (UInt8.toNat e1),pI 0,pI (getV b (1 + 2 * (0 : Int))),pI 0,pI 0,pS 1 false encBo G.bits,pNil,p16 0,p16 0,pNil]) rfl ⟨le_refl _,le_refl _,le_refl _,le_refl _,le_refl _,le_of_eq (congrArg (fun z => pS 1 false encBo z) hz8),le_refl _,le_refl _,le_refl _,le_refl _,trivial⟩ ?_
  have hz9 : ((UInt8.toNat e1 : Nat) : Int) = G.fn ∧ 0 = G.code ∧ (getV b (1 + 2 * (0 : Int))) = G.at_ ∧ 0 = G.count ∧ 0 = G.sub ∧ ([] : List UInt16) = G.vals ∧ 0 = G.and_ ∧ 0 = G.or_ ∧ ([] : List UInt8) = G.data := by refine ⟨?_, ?_, ?_, ?_, ?_, ?_, ?_, ?_, ?_⟩ <;> (first|(rw [hG,takeP_5 hb0 (by omega) (by omega)]; done)|(rw [hG,takeP_5 hb0 (by omega) (by omega)]; rfl))
  refine w_leO (n := 1) (ds := cReply G) rfl ⟨le_of_eq (congrArg (fun z : Int => pI z) hz9.1),le_of_eq (congrArg (fun z : Int => pI z) hz9.2.1),le_of_eq (congrArg (fun z : Int => pI z) hz9.2.2.1),le_of_eq (congrArg (fun z : Int => pI z) hz9.2.2.2.1),le_of_eq (congrArg (fun z : Int => pI z) hz9.2.2.2.2.1),le_refl _,le_tr (le_nilS 1 false) (le_of_eq (congrArg (fun z => pS 1 false enc16 z) hz9.2.2.2.2.2.1)),le_of_eq (congrArg (fun z : UInt16 => p16 z) hz9.2.2.2.2.2.2.1),le_of_eq (congrArg (fun z : UInt16 => p16 z) hz9.2.2.2.2.2.2.2.1),le_tr (le_nilS 1 false) (le_of_eq (congrArg (fun z => pS 1 false enc8 z) hz9.2.2.2.2.2.2.2.2)),trivial⟩ ?_
  refine w_ret ?_
  exact fin_plain (ret_cell tab_53 (by decide) rfl rfl (Nat.le_of_ble_eq_true rfl) rfl ret_nil) rfl rfl ⟨rfl,rfl,rfl⟩
 have c8_ := c8
 try simp only [sB] at c8
 refine w_seq ?_
 refine w_R ?_
 refine qo hnt rfl (s_eql rfl rfl ?_)
 refine qa hnt rfl rfl ?_
 refine r_end ?_
 refine q_then ?_
 refine w_if rfl (fun c9 => ?_) (fun c9 => ?_)
 ·
  have c9_ := c9
  try simp only [sB] at c9
  refine w_R ?_
  refine qm hnt rfl rfl ?_
  refine qo hnt rfl (s_callF rfl rfl rfl (w_reply_num b cl_b 0 (by omega) (by omega)) rfl ?_)
  refine qm hnt rfl rfl ?_
  refine qo hnt rfl (s_callF rfl rfl rfl (w_reply_num b cl_b 1 (by omega) (by omega)) rfl ?_)
  refine qo hnt rfl (s_cv16 tab_3 tab_44 rfl rfl rfl ?_)
  refine qo hnt rfl (s_mkM (f := enc16) [u16I (getV b (1 + 2 * (1 : Int)))] tab_43 rfl tab_44 ⟨rfl,by decide⟩ (by decide) rfl rfl rfl rfl ?_)
  refine qo hnt rfl (s_fa_ptr tab_53 rfl rfl tab_3 (by decide) rfl ?_)
  refine qo hnt rfl (s_store_ptr tab_3 rfl rfl rfl rfl rfl (Nat.le_of_ble_eq_true rfl) ?_)
  refine qo hnt rfl (s_fa_ptr tab_53 rfl rfl tab_43 (by decide) rfl ?_)
  refine qo hnt rfl (s_store_ptr tab_43 rfl rfl rfl rfl rfl (Nat.le_of_ble_eq_true rfl) ?_)
  refine r_set [(4,PV.ptr 1 0)] [(1,.obj [pN (UInt8.toNat e1),pI 0,pI (getV b (1 + 2 * (0 : Int))),pI 0,pI 0,pNil,PV.ref 2 0 none,p16 0,p16 0,pNil]),(2,oB true 1 enc16 [u16I (getV b (1 + 2 * (1 : Int)))]),(0,.obj (cRequest q))] 3 ⟨rfl,trivial⟩ rfl rfl ?_
  refine r_end ?_
  refine q_block ?_
  refine q_then ?_
  refine w_seq ?_
  refine w_R ?_
  refine qo hnt rfl (s_load_ptr tab_53 rfl rfl rfl (Nat.le_of_ble_eq_true rfl) ?_)
  refine qo hnt rfl (s_store_ptr tab_53 rfl rfl rfl rfl rfl (Nat.le_of_ble_eq_true rfl) ?_)
  refine r_set [(4,PV.ptr 1 0)] [(1,.obj [pN (UInt8.toNat e1),pI 0,pI (getV b (1 + 2 * (0 : Int))),pI 0,pI 0,pNil,PV.ref 2 0 none,p16 0,p16 0,pNil]),(2,oB true 1 enc16 [u16I (getV b (1 + 2 * (1 : Int)))]),(0,.obj (cRequest q))] 3 ⟨rfl,trivial⟩ rfl rfl ?_
  refine r_end ?_
  refine q_then ?_
  refine w_frzC (n := 1) (j := 6) rfl rfl rfl rfl ?_
  have hz10 : ([u16I (getV b (1 + 2 * (1 : Int)))] : List UInt16) = G.vals := by ((rw [hG,takeP_6 hb0 (by omega) (by omega)]; rfl))
  refine w_leO (n := 1) (ds := [pN (UInt8.toNat e1),pI 0,pI (getV b (1 + 2 * (0 : Int))),pI 0,pI 0,pNil,pS 1 false enc16 G.vals,p16 0,p16 0,pNil]) rfl ⟨le_refl _,le_refl _,le_refl _,le_refl _,le_refl _,le_refl _,le_of_eq (congrArg (fun z => pS 1 false enc16 z) hz10),le_refl _,le_refl _,le_refl _,trivial⟩ ?_
  have hz11 : ((UInt8.toNat e1 : Nat) : Int) = G.fn ∧ 0 = G.code ∧ (getV b (1 + 2 * (0 : Int))) = G.at_ ∧ 0 = G.count ∧ 0 = G.sub ∧ ([] : List Bool) = G.bits ∧ 0 = G.and_ ∧ 0 = G.or_ ∧ ([] : List UInt8) = G.data := by refine ⟨?_, ?_, ?_, ?_, ?_, ?_, ?_, ?_, ?_⟩ <;> (first|(rw [hG,takeP_6 hb0 (by omega) (by omega)]; done)|(rw [hG,takeP_6 hb0 (by omega) (by omega)]; rfl))
  refine w_leO (n := 1) (ds := cReply G) rfl ⟨le_of_eq (congrArg (fun z : Int => pI z) hz11.1),le_of_eq (congrArg (fun z : Int => pI z) hz11.2.1),le_of_eq (congrArg (fun z : Int => pI z) hz11.2.2.1),le_of_eq (congrArg (fun z : Int => pI z) hz11.2.2.2.1),le_of_eq (congrArg (fun z : Int => pI z) hz11.2.2.2.2.1),le_tr (le_nilS 1 false) (le_of_eq (congrArg (fun z => pS 1 false encBo z) hz11.2.2.2.2.2.1)),le_refl _,le_of_eq (congrArg (fun z : UInt16 => p16 z) hz11.2.2.2.2.2.2.1),le_of_eq (congrArg (fun z : UInt16 => p16 z) hz11.2.2.2.2.2.2.2.1),le_tr (le_nilS 1 false) (le_of_eq (congrArg (fun z => pS 1 false enc8 z) hz11.2.2.2.2.2.2.2.2)),trivial⟩ ?_
  refine w_ret ?_
  exact fin_plain (ret_cell tab_53 (by decide) rfl rfl (Nat.le_of_ble_eq_true rfl) rfl ret_nil) rfl rfl ⟨rfl,rfl,rfl⟩
 have c9_ := c9
 try simp only [sB] at c9
 refine w_seq ?_
 refine w_R ?_
 refine qo hnt rfl (s_eql rfl rfl ?_)
 refine qa hnt rfl rfl ?_
 refine r_end ?_
 refine q_then ?_
 refine w_if rfl (fun c10 => ?_) (fun c10 => ?_)
 ·
  have c10_ := c10
  try simp only [sB] at c10
  refine w_R ?_
  refine qm hnt rfl rfl ?_
  refine qo hnt rfl (s_callF rfl rfl rfl (w_reply_num b cl_b 0 (by omega) (by omega)) rfl ?_)
  refine qm hnt rfl rfl ?_
  refine qo hnt rfl (s_callF rfl rfl rfl (w_reply_num b cl_b 1 (by omega) (by omega)) rfl ?_)
  refine qo hnt rfl (s_cv16 tab_3 tab_44 rfl rfl rfl ?_)
  refine qo hnt rfl (s_mkM (f := enc16) [u16I (getV b (1 + 2 * (1 : Int)))] tab_43 rfl tab_44 ⟨rfl,by decide⟩ (by decide) rfl rfl rfl rfl ?_)
  refine qo hnt rfl (s_fa_ptr tab_53 rfl rfl tab_3 (by decide) rfl ?_)
  refine qo hnt rfl (s_store_ptr tab_3 rfl rfl rfl rfl rfl (Nat.le_of_ble_eq_true rfl) ?_)
  refine qo hnt rfl (s_fa_ptr tab_53 rfl rfl tab_43 (by decide) rfl ?_)
  refine qo hnt rfl (s_store_ptr tab_43 rfl rfl rfl rfl rfl (Nat.le_of_ble_eq_true rfl) ?_)
  refine r_set [(4,PV.ptr 1 0)] [(1,.obj [pN (UInt8.toNat e1),pI 0,pI 0,pI 0,pI (getV b (1 + 2 * (0 : Int))),pNil,PV.ref 2 0 none,p16 0,p16 0,pNil]),(2,oB true 1 enc16 [u16I (getV b (1 + 2 * (1 : Int)))]),(0,.obj (cRequest q))] 3 ⟨rfl,trivial⟩ rfl rfl ?_
  refine r_end ?_
  refine q_block ?_
  refine q_then ?_
  refine w_seq ?_
  refine w_R ?_
  refine qo hnt rfl (s_load_ptr tab_53 rfl rfl rfl (Nat.le_of_ble_eq_true rfl) ?_)
  refine qo hnt rfl (s_store_ptr tab_53 rfl rfl rfl rfl rfl (Nat.le_of_ble_eq_true rfl) ?_)
  refine r_set [(4,PV.ptr 1 0)] [(1,.obj [pN (UInt8.toNat e1),pI 0,pI 0,pI 0,pI (getV b (1 + 2 * (0 : Int))),pNil,PV.ref 2 0 none,p16 0,p16 0,pNil]),(2,oB true 1 enc16 [u16I (getV b (1 + 2 * (1 : Int)))]),(0,.obj (cRequest q))] 3 ⟨rfl,trivial⟩ rfl rfl ?_
  refine r_end ?_
  refine q_then ?_
  refine w_frzC (n := 1) (j := 6) rfl rfl rfl rfl ?_
  have hz12 : ([u16I (getV b (1 + 2 * (1 : Int)))] : List UInt16) = G.vals := by ((rw [hG,takeP_8 hb0 (by omega) (by omega)]; rfl))
  refine w_leO (n := 1) (ds := [pN (UInt8.toNat e1),pI 0,pI 0,pI 0,pI (getV b (1 + 2 * (0 : Int))),pNil,pS 1 false enc16 G.vals,p16 0,p16 0,pNil]) rfl ⟨le_refl _,le_refl _,le_refl _,le_refl _,le_refl _,le_refl _,le_of_eq (congrArg (fun z => pS 1 false enc16 z) hz12),le_refl _,le_refl _,le_refl _,trivial⟩ ?_
  have hz13 : ((UInt8.toNat e1 : Nat) : Int) = G.fn ∧ 0 = G.code ∧ 0 = G.at_ ∧ 0 = G.count ∧ (getV b (1 + 2 * (0 : Int))) = G.sub ∧ ([] : List Bool) = G.bits ∧ 0 = G.and_ ∧ 0 = G.or_ ∧ ([] : List UInt8) = G.data := by refine ⟨?_, ?_, ?_, ?_, ?_, ?_, ?_, ?_, ?_⟩ <;> (first|(rw [hG,takeP_8 hb0 (by omega) (by omega)]; done)|(rw [hG,takeP_8 hb0 (by omega) (by omega)]; rfl))
  refine w_leO (n := 1) (ds := cReply G) rfl ⟨le_of_eq (congrArg (fun z : Int => pI z) hz13.1),le_of_eq (congrArg (fun z : Int => pI z) hz13.2.1),le_of_eq (congrArg (fun z : Int => pI z) hz13.2.2.1),le_of_eq (congrArg (fun z : Int => pI z) hz13.2.2.2.1),le_of_eq (congrArg (fun z : Int => pI z) hz13.2.2.2.2.1),le_tr (le_nilS 1 false) (le_of_eq (congrArg (fun z => pS 1 false encBo z) hz13.2.2.2.2.2.1)),le_refl _,le_of_eq (congrArg (fun z : UInt16 => p16 z) hz13.2.2.2.2.2.2.1),le_of_eq (congrArg (fun z : UInt16 => p16 z) hz13.2.2.2.2.2.2.2.1),le_tr (le_nilS 1 false) (le_of_eq (congrArg (fun z => pS 1 false enc8 z) hz13.2.2.2.2.2.2.2.2)),trivial⟩ ?_
  refine w_ret ?_
  exact fin_plain (ret_cell tab_53 (by decide) rfl rfl (Nat.le_of_ble_eq_true rfl) rfl ret_nil) rfl rfl ⟨rfl,rfl,rfl⟩
 have c10_ := c10
 try simp only [sB] at c10
 refine w_seq ?_
 refine w_seq ?_
 refine w_R ?_
 refine qo hnt rfl (s_eql rfl rfl ?_)
 refine qa hnt rfl rfl ?_
 refine r_end ?_
 refine q_then ?_
 refine w_if rfl (fun c11 => ?_) (fun c11 => ?_)
 ·
  have c11_ := c11
  try simp only [sB] at c11
  refine w_skip ?_
  refine q_then ?_
  refine w_if rfl (fun _ => ?_) (fun e => absurd (e.symm.trans c11_) (by decide))
  refine w_R ?_
  refine qm hnt rfl rfl ?_
  refine qo hnt rfl (s_callF rfl rfl rfl (w_reply_num b cl_b 0 (by omega) (by omega)) rfl ?_)
  refine qm hnt rfl rfl ?_
  refine qo hnt rfl (s_callF rfl rfl rfl (w_reply_num b cl_b 1 (by omega) (by omega)) rfl ?_)
  refine qo hnt rfl (s_fa_ptr tab_53 rfl rfl tab_3 (by decide) rfl ?_)
  refine qo hnt rfl (s_store_ptr tab_3 rfl rfl rfl rfl rfl (Nat.le_of_ble_eq_true rfl) ?_)
  refine qo hnt rfl (s_fa_ptr tab_53 rfl rfl tab_3 (by decide) rfl ?_)
  refine qo hnt rfl (s_store_ptr tab_3 rfl rfl rfl rfl rfl (Nat.le_of_ble_eq_true rfl) ?_)
  refine r_set [(4,PV.ptr 1 0)] [(1,.obj [pN (UInt8.toNat e1),pI 0,pI (getV b (1 + 2 * (0 : Int))),pI (getV b (1 + 2 * (1 : Int))),pI 0,pNil,pNil,p16 0,p16 0,pNil]),(0,.obj (cRequest q))] 2 ⟨rfl,trivial⟩ rfl rfl ?_
  refine r_end ?_
  refine q_block ?_
  refine q_then ?_
  refine w_seq ?_
  refine w_R ?_
  refine qo hnt rfl (s_load_ptr tab_53 rfl rfl rfl (Nat.le_of_ble_eq_true rfl) ?_)
  refine qo hnt rfl (s_store_ptr tab_53 rfl rfl rfl rfl rfl (Nat.le_of_ble_eq_true rfl) ?_)
  refine r_set [(4,PV.ptr 1 0)] [(1,.obj [pN (UInt8.toNat e1),pI 0,pI (getV b (1 + 2 * (0 : Int))),pI (getV b (1 + 2 * (1 : Int))),pI 0,pNil,pNil,p16 0,p16 0,pNil]),(0,.obj (cRequest q))] 2 ⟨rfl,trivial⟩ rfl rfl ?_
  refine r_end ?_
  refine q_then ?_
  have hz14 : ((UInt8.toNat e1 : Nat) : Int) = G.fn ∧ 0 = G.code ∧ (getV b (1 + 2 * (0 : Int))) = G.at_ ∧ (getV b (1 + 2 * (1 : Int))) = G.count ∧ 0 = G.sub ∧ ([] : List Bool) = G.bits ∧ ([] : List UInt16) = G.vals ∧ 0 = G.and_ ∧ 0 = G.or_ ∧ ([] : List UInt8) = G.data := by refine ⟨?_, ?_, ?_, ?_, ?_, ?_, ?_, ?_, ?_, ?_⟩ <;> (first|(rw [hG,takeP_15 hb0 (by omega) (by omega)]; done)|(rw [hG,takeP_15 hb0 (by omega) (by omega)]; rfl))
  refine w_leO (n := 1) (ds := cReply G) rfl ⟨le_of_eq (congrArg (fun z : Int => pI z) hz14.1),le_of_eq (congrArg (fun z : Int => pI z) hz14.2.1),le_of_eq (congrArg (fun z : Int => pI z) hz14.2.2.1),le_of_eq (congrArg (fun z : Int => pI z) hz14.2.2.2.1),le_of_eq (congrArg (fun z : Int => pI z) hz14.2.2.2.2.1),le_tr (le_nilS 1 false) (le_of_eq (congrArg (fun z => pS 1 false encBo z) hz14.2.2.2.2.2.1)),le_tr (le_nilS 1 false) (le_of_eq (congrArg (fun z => pS 1 false enc16 z) hz14.2.2.2.2.2.2.1)),le_of_eq (congrArg (fun z : UInt16 => p16 z) hz14.2.2.2.2.2.2.2.1),le_of_eq (congrArg (fun z : UInt16 => p16 z) hz14.2.2.2.2.2.2.2.2.1),le_tr (le_nilS 1 false) (le_of_eq (congrArg (fun z => pS 1 false enc8 z) hz14.2.2.2.2.2.2.2.2.2)),trivial⟩ ?_
  refine w_ret ?_
  exact fin_plain (ret_cell tab_53 (by decide) rfl rfl (Nat.le_of_ble_eq_true rfl) rfl ret_nil) rfl rfl ⟨rfl,rfl,rfl⟩
 have c11_ := c11
 try simp only [sB] at c11
 refine w_R ?_
 refine qo hnt rfl (s_eql rfl rfl ?_)
 refine qa hnt rfl rfl ?_
 refine r_end ?_
 refine q_then ?_
 refine w_if rfl (fun c12 => ?_) (fun c12 => ?_)
 ·
  have c12_ := c12
  try simp only [sB] at c12
  refine w_R ?_
  refine qm hnt rfl rfl ?_
  refine qo hnt rfl (s_callF rfl rfl rfl (w_reply_num b cl_b 0 (by omega) (by omega)) rfl ?_)
  refine qm hnt rfl rfl ?_
  refine qo hnt rfl (s_callF rfl rfl rfl (w_reply_num b cl_b 1 (by omega) (by omega)) rfl ?_)
  refine qo hnt rfl (s_fa_ptr tab_53 rfl rfl tab_3 (by decide) rfl ?_)
  refine qo hnt rfl (s_store_ptr tab_3 rfl rfl rfl rfl rfl (Nat.le_of_ble_eq_true rfl) ?_)
  refine qo hnt rfl (s_fa_ptr tab_53 rfl rfl tab_3 (by decide) rfl ?_)
  refine qo hnt rfl (s_store_ptr tab_3 rfl rfl rfl rfl rfl (Nat.le_of_ble_eq_true rfl) ?_)
  refine r_set [(4,PV.ptr 1 0)] [(1,.obj [pN (UInt8.toNat e1),pI 0,pI (getV b (1 + 2 * (0 : Int))),pI (getV b (1 + 2 * (1 : Int))),pI 0,pNil,pNil,p16 0,p16 0,pNil]),(0,.obj (cRequest q))] 2 ⟨rfl,trivial⟩ rfl rfl ?_
  refine r_end ?_
  refine q_block ?_
  refine q_then ?_
  refine w_seq ?_
  refine w_R ?_
  refine qo hnt rfl (s_load_ptr tab_53 rfl rfl rfl (Nat.le_of_ble_eq_true rfl) ?_)
  refine qo hnt rfl (s_store_ptr tab_53 rfl rfl rfl rfl rfl (Nat.le_of_ble_eq_true rfl) ?_)
  refine r_set [(4,PV.ptr 1 0)] [(1,.obj [pN (UInt8.toNat e1),pI 0,pI (getV b (1 + 2 * (0 : Int))),pI (getV b (1 + 2 * (1 : Int))),pI 0,pNil,pNil,p16 0,p16 0,pNil]),(0,.obj (cRequest q))] 2 ⟨rfl,trivial⟩ rfl rfl ?_
  refine r_end ?_
  refine q_then ?_
  have hz15 : ((UInt8.toNat e1 : Nat) : Int) = G.fn ∧ 0 = G.code ∧ (getV b (1 + 2 * (0 : Int))) = G.at_ ∧ (getV b (1 + 2 * (1 : Int))) = G.count ∧ 0 = G.sub ∧ ([] : List Bool) = G.bits ∧ ([] : List UInt16) = G.vals ∧ 0 = G.and_ ∧ 0 = G.or_ ∧ ([] : List UInt8) = G.data := by refine ⟨?_, ?_, ?_, ?_, ?_, ?_, ?_, ?_, ?_, ?_⟩ <;> (first|(rw [hG,takeP_15 hb0 (by omega) (by omega)]; done)|(rw [hG,takeP_15 hb0 (by omega) (by omega)]; rfl))
  refine w_leO (n := 1) (ds := cReply G) rfl ⟨le_of_eq (congrArg (fun z : Int => pI z) hz15.1),le_of_eq (congrArg (fun z : Int => pI z) hz15.2.1),le_of_eq (congrArg (fun z : Int => pI z) hz15.2.2.1),le_of_eq (congrArg (fun z : Int => pI z) hz15.2.2.2.1),le_of_eq (congrArg (fun z : Int => pI z) hz15.2.2.2.2.1),le_tr (le_nilS 1 false) (le_of_eq (congrArg (fun z => pS 1 false encBo z) hz15.2.2.2.2.2.1)),le_tr (le_nilS 1 false) (le_of_eq (congrArg (fun z => pS 1 false enc16 z) hz15.2.2.2.2.2.2.1)),le_of_eq (congrArg (fun z : UInt16 => p16 z) hz15.2.2.2.2.2.2.2.1),le_of_eq (congrArg (fun z : UInt16 => p16 z) hz15.2.2.2.2.2.2.2.2.1),le_tr (le_nilS 1 false) (le_of_eq (congrArg (fun z => pS 1 false enc8 z) hz15.2.2.2.2.2.2.2.2.2)),trivial⟩ ?_
  refine w_ret ?_
  exact fin_plain (ret_cell tab_53 (by decide) rfl rfl (Nat.le_of_ble_eq_true rfl) rfl ret_nil) rfl rfl ⟨rfl,rfl,rfl⟩
 have c12_ := c12
 try simp only [sB] at c12
 refine w_seq ?_
 refine w_R ?_
 refine qo hnt rfl (s_eql rfl rfl ?_)
 refine qa hnt rfl rfl ?_
 refine r_set [(0,pS 1 cl_b enc8 b),(4,PV.ptr 1 0),(5,pS 1 cl_b enc8 (b.drop (min b.length 2))),(33,pN (UInt8.toNat e1)),(94,pB (decide (((UInt8.toNat e1 : Nat) : Int) = 22)))] [(1,.obj [pN (UInt8.toNat e1),pI 0,pI 0,pI 0,pI 0,pNil,pNil,p16 0,p16 0,pNil]),(0,.obj (cRequest q))] 2 ⟨rfl,rfl,rfl,rfl,rfl,trivial⟩ rfl rfl ?_
 refine r_end ?_
 refine q_then ?_
 refine w_if rfl (fun c13 => ?_) (fun c13 => ?_)
 ·
  have c13_ := c13
  try simp only [sB] at c13
  refine w_R ?_
  refine qm hnt rfl rfl ?_
  refine qo hnt rfl (s_callF rfl rfl rfl (w_reply_num b cl_b 0 (by omega) (by omega)) rfl ?_)
  refine qm hnt rfl rfl ?_
  refine qo hnt rfl (s_callF rfl rfl rfl (w_reply_num b cl_b 1 (by omega) (by omega)) rfl ?_)
  refine qo hnt rfl (s_cv16 tab_3 tab_44 rfl rfl rfl ?_)
  refine qm hnt rfl rfl ?_
  refine qo hnt rfl (s_callF rfl rfl rfl (w_reply_num b cl_b 2 (by omega) (by omega)) rfl ?_)
  refine qo hnt rfl (s_cv16 tab_3 tab_44 rfl rfl rfl ?_)
  refine qo hnt rfl (s_fa_ptr tab_53 rfl rfl tab_3 (by decide) rfl ?_)
  refine qo hnt rfl (s_store_ptr tab_3 rfl rfl rfl rfl rfl (Nat.le_of_ble_eq_true rfl) ?_)
  refine qo hnt rfl (s_fa_ptr tab_53 rfl rfl tab_44 (by decide) rfl ?_)
  refine qo hnt rfl (s_store_ptr tab_44 rfl rfl rfl rfl rfl (Nat.le_of_ble_eq_true rfl) ?_)
  refine qo hnt rfl (s_fa_ptr tab_53 rfl rfl tab_44 (by decide) rfl ?_)
  refine qo hnt rfl (s_store_ptr tab_44 rfl rfl rfl rfl rfl (Nat.le_of_ble_eq_true rfl) ?_)
  refine r_set [(4,PV.ptr 1 0)] [(1,.obj [pN (UInt8.toNat e1),pI 0,pI (getV b (1 + 2 * (0 : Int))),pI 0,pI 0,pNil,pNil,p16 (u16I (getV b (1 + 2 * (1 : Int)))),p16 (u16I (getV b (1 + 2 * (2 : Int)))),pNil]),(0,.obj (cRequest q))] 2 ⟨rfl,trivial⟩ rfl rfl ?_
  refine r_end ?_
  refine q_block ?_
  refine q_then ?_
  refine w_seq ?_
  refine w_R ?_
  refine qo hnt rfl (s_load_ptr tab_53 rfl rfl rfl (Nat.le_of_ble_eq_true rfl) ?_)
  refine qo hnt rfl (s_store_ptr tab_53 rfl rfl rfl rfl rfl (Nat.le_of_ble_eq_true rfl) ?_)
  refine r_set [(4,PV.ptr 1 0)] [(1,.obj [pN (UInt8.toNat e1),pI 0,pI (getV b (1 + 2 * (0 : Int))),pI 0,pI 0,pNil,pNil,p16 (u16I (getV b (1 + 2 * (1 : Int)))),p16 (u16I (getV b (1 + 2 * (2 : Int)))),pNil]),(0,.obj (cRequest q))] 2 ⟨rfl,trivial⟩ rfl rfl ?_
  refine r_end ?_
  refine q_then ?_
  have hz16 : ((UInt8.toNat e1 : Nat) : Int) = G.fn ∧ 0 = G.code ∧ (getV b (1 + 2 * (0 : Int))) = G.at_ ∧ 0 = G.count ∧ 0 = G.sub ∧ ([] : List Bool) = G.bits ∧ ([] : List UInt16) = G.vals ∧ (u16I (getV b (1 + 2 * (1 : Int)))) = G.and_ ∧ (u16I (getV b (1 + 2 * (2 : Int)))) = G.or_ ∧ ([] : List UInt8) = G.data := by refine ⟨?_, ?_, ?_, ?_, ?_, ?_, ?_, ?_, ?_, ?_⟩ <;> (first|(rw [hG,takeP_22 hb0 (by omega) (by omega)]; done)|(rw [hG,takeP_22 hb0 (by omega) (by omega)]; rfl))
  refine w_leO (n := 1) (ds := cReply G) rfl ⟨le_of_eq (congrArg (fun z : Int => pI z) hz16.1),le_of_eq (congrArg (fun z : Int => pI z) hz16.2.1),le_of_eq (congrArg (fun z : Int => pI z) hz16.2.2.1),le_of_eq (congrArg (fun z : Int => pI z) hz16.2.2.2.1),le_of_eq (congrArg (fun z : Int => pI z) hz16.2.2.2.2.1),le_tr (le_nilS 1 false) (le_of_eq (congrArg (fun z => pS 1 false encBo z) hz16.2.2.2.2.2.1)),le_tr (le_nilS 1 false) (le_of_eq (congrArg (fun z => pS 1 false enc16 z) hz16.2.2.2.2.2.2.1)),le_of_eq (congrArg (fun z : UInt16 => p16 z) hz16.2.2.2.2.2.2.2.1),le_of_eq (congrArg (fun z : UInt16 => p16 z) hz16.2.2.2.2.2.2.2.2.1),le_tr (le_nilS 1 false) (le_of_eq (congrArg (fun z => pS 1 false enc8 z) hz16.2.2.2.2.2.2.2.2.2)),trivial⟩ ?_
  refine w_ret ?_
  exact fin_plain (ret_cell tab_53 (by decide) rfl rfl (Nat.le_of_ble_eq_true rfl) rfl ret_nil) rfl rfl ⟨rfl,rfl,rfl⟩
 have c13_ := c13
 try simp only [sB] at c13
 refine w_seq ?_
 refine w_R ?_
 refine qo hnt rfl (s_eql rfl rfl ?_)
 refine qa hnt rfl rfl ?_
 refine r_end ?_
 refine q_then ?_
 refine w_if rfl (fun c14 => ?_) (fun c14 => ?_)
 ·
  have c14_ := c14
  try simp only [sB] at c14
  refine w_R ?_
  refine qm hnt rfl rfl ?_
  refine qo hnt rfl (s_callX (r2 := PV.ref 2 0 none) (nx1 := 3) (H2 := [(1,.obj [pN (UInt8.toNat e1),pI 0,pI 0,pI 0,pI 0,pNil,pNil,p16 0,p16 0,pNil]),(0,.obj (cRequest q))]) (H3 := [(2,oB true 1 enc8 (b.drop (min b.length 2))),(1,.obj [pN (UInt8.toNat e1),pI 0,pI 0,pI 0,pI 0,pNil,pNil,p16 0,p16 0,pNil]),(0,.obj (cRequest q))]) [] [] rfl rfl rfl (handed_of (by decide) trivial) rfl rfl rfl rfl rfl rfl (w_slices_Clone_byte_byte (b.drop (min b.length 2)) cl_b (by (simp; omega))) rfl (dist_of rfl) rfl rfl rfl rfl ?_)
  refine qo hnt rfl (s_fa_ptr tab_53 rfl rfl tab_51 (by decide) rfl ?_)
  refine qo hnt rfl (s_store_ptr tab_51 rfl rfl rfl rfl rfl (Nat.le_of_ble_eq_true rfl) ?_)
  refine r_set [(4,PV.ptr 1 0)] [(1,.obj [pN (UInt8.toNat e1),pI 0,pI 0,pI 0,pI 0,pNil,pNil,p16 0,p16 0,PV.ref 2 0 none]),(2,oB true 1 enc8 (b.drop (min b.length 2))),(0,.obj (cRequest q))] 3 ⟨rfl,trivial⟩ rfl rfl ?_
  refine r_end ?_
  refine q_block ?_
  refine q_then ?_
  refine w_seq ?_
  refine w_R ?_
  refine qo hnt rfl (s_load_ptr tab_53 rfl rfl rfl (Nat.le_of_ble_eq_true rfl) ?_)
  refine qo hnt rfl (s_store_ptr tab_53 rfl rfl rfl rfl rfl (Nat.le_of_ble_eq_true rfl) ?_)
  refine r_set [(4,PV.ptr 1 0)] [(1,.obj [pN (UInt8.toNat e1),pI 0,pI 0,pI 0,pI 0,pNil,pNil,p16 0,p16 0,PV.ref 2 0 none]),(2,oB true 1 enc8 (b.drop (min b.length 2))),(0,.obj (cRequest q))] 3 ⟨rfl,trivial⟩ rfl rfl ?_
  refine r_end ?_
  refine q_then ?_
  refine w_frzC (n := 1) (j := 9) rfl rfl rfl rfl ?_
  have hz17 : (b.drop (min b.length 2)) = G.data := by ((rw [hG,takeP_17 hb0 (by omega) (by omega)]; done))
  refine w_leO (n := 1) (ds := [pN (UInt8.toNat e1),pI 0,pI 0,pI 0,pI 0,pNil,pNil,p16 0,p16 0,pS 1 false enc8 G.data]) rfl ⟨le_refl _,le_refl _,le_refl _,le_refl _,le_refl _,le_refl _,le_refl _,le_refl _,le_refl _,le_of_eq (congrArg (fun z => pS 1 false enc8 z) hz17),trivial⟩ ?_
  have hz18 : ((UInt8.toNat e1 : Nat) : Int) = G.fn ∧ 0 = G.code ∧ 0 = G.at_ ∧ 0 = G.count ∧ 0 = G.sub ∧ ([] : List Bool) = G.bits ∧ ([] : List UInt16) = G.vals ∧ 0 = G.and_ ∧ 0 = G.or_ := by refine ⟨?_, ?_, ?_, ?_, ?_, ?_, ?_, ?_, ?_⟩ <;> ((rw [hG,takeP_17 hb0 (by omega) (by omega)]; done))
  refine w_leO (n := 1) (ds := cReply G) rfl ⟨le_of_eq (congrArg (fun z : Int => pI z) hz18.1),le_of_eq (congrArg (fun z : Int => pI z) hz18.2.1),le_of_eq (congrArg (fun z : Int => pI z) hz18.2.2.1),le_of_eq (congrArg (fun z : Int => pI z) hz18.2.2.2.1),le_of_eq (congrArg (fun z : Int => pI z) hz18.2.2.2.2.1),le_tr (le_nilS 1 false) (le_of_eq (congrArg (fun z => pS 1 false encBo z) hz18.2.2.2.2.2.1)),le_tr (le_nilS 1 false) (le_of_eq (congrArg (fun z => pS 1 false enc16 z) hz18.2.2.2.2.2.2.1)),le_of_eq (congrArg (fun z : UInt16 => p16 z) hz18.2.2.2.2.2.2.2.1),le_of_eq (congrArg (fun z : UInt16 => p16 z) hz18.2.2.2.2.2.2.2.2),le_refl _,trivial⟩ ?_
  refine w_ret ?_
  exact fin_plain (ret_cell tab_53 (by decide) rfl rfl (Nat.le_of_ble_eq_true rfl) rfl ret_nil) rfl rfl ⟨rfl,rfl,rfl⟩
 have c14_ := c14
 try simp only [sB] at c14
 refine w_skip ?_
 refine q_block ?_
 refine q_then ?_
 refine w_seq ?_
 refine w_R ?_
 refine qo hnt rfl (s_load_ptr tab_53 rfl rfl rfl (Nat.le_of_ble_eq_true rfl) ?_)
 refine qo hnt rfl (s_store_ptr tab_53 rfl rfl rfl rfl rfl (Nat.le_of_ble_eq_true rfl) ?_)
 refine r_set [(4,PV.ptr 1 0)] [(1,.obj [pN (UInt8.toNat e1),pI 0,pI 0,pI 0,pI 0,pNil,pNil,p16 0,p16 0,pNil]),(0,.obj (cRequest q))] 2 ⟨rfl,trivial⟩ rfl rfl ?_
 refine r_end ?_
 refine q_then ?_
 have hz19 : ((UInt8.toNat e1 : Nat) : Int) = G.fn ∧ 0 = G.code ∧ 0 = G.at_ ∧ 0 = G.count ∧ 0 = G.sub ∧ ([] : List Bool) = G.bits ∧ ([] : List UInt16) = G.vals ∧ 0 = G.and_ ∧ 0 = G.or_ ∧ ([] : List UInt8) = G.data := by refine ⟨?_, ?_, ?_, ?_, ?_, ?_, ?_, ?_, ?_, ?_⟩ <;> ((rw [hG,takeP_0 hb0 (by omega) (by omega)]; done))
 refine w_leO (n := 1) (ds := cReply G) rfl ⟨le_of_eq (congrArg (fun z : Int => pI z) hz19.1),le_of_eq (congrArg (fun z : Int => pI z) hz19.2.1),le_of_eq (congrArg (fun z : Int => pI z) hz19.2.2.1),le_of_eq (congrArg (fun z : Int => pI z) hz19.2.2.2.1),le_of_eq (congrArg (fun z : Int => pI z) hz19.2.2.2.2.1),le_tr (le_nilS 1 false) (le_of_eq (congrArg (fun z => pS 1 false encBo z) hz19.2.2.2.2.2.1)),le_tr (le_nilS 1 false) (le_of_eq (congrArg (fun z => pS 1 false enc16 z) hz19.2.2.2.2.2.2.1)),le_of_eq (congrArg (fun z : UInt16 => p16 z) hz19.2.2.2.2.2.2.2.1),le_of_eq (congrArg (fun z : UInt16 => p16 z) hz19.2.2.2.2.2.2.2.2.1),le_tr (le_nilS 1 false) (le_of_eq (congrArg (fun z => pS 1 false enc8 z) hz19.2.2.2.2.2.2.2.2.2)),trivial⟩ ?_
 refine w_ret ?_
 exact fin_plain (ret_cell tab_53 (by decide) rfl rfl (Nat.le_of_ble_eq_true rfl) rfl ret_nil) rfl rfl ⟨rfl,rfl,rfl⟩
theorem w_reply_Read (b : List UInt8) (cl_b : Bool) (q : TRequest) (R : TReply × Int) (hR : R = takeWith takeP b q) (hb : b.length ≤ 140737488351232) (hq : q.count ≤ 9223372036854775807 ∧ (b.length ≤ 17592186043904 ∨ q.count ≤ 140737488351232)) :
    T Try.prog 32 [pS 1 cl_b enc8 b,PV.f (eRequest q)] 0 [] (Ret (PV.tup [PV.f (eReply R.1),pI R.2]) 0 []) := by
 refine t_fun tabOk (n := 62) (rs := [.cell 4 53,.tmp 5]) Try.func32 rfl rfl rfl rfl (Nat.le_of_ble_eq_true rfl) ?_
 intro c hnt hk
 refine w_seq ?_
 refine w_R ?_
 refine qo hnt rfl (s_box rfl rfl ?_)
 refine qo hnt rfl (s_alloc tab_53 ?_)
 refine qa hnt rfl rfl ?_
 refine r_set [(0,pS 1 cl_b enc8 b),(3,PV.ptr 0 0),(4,PV.ptr 1 0)] [(1,.obj [pI 0,pI 0,pI 0,pI 0,pI 0,pNil,pNil,p16 0,p16 0,pNil]),(0,.obj (cRequest q))] 2 ⟨rfl,rfl,rfl,trivial⟩ rfl rfl ?_
 refine r_end ?_
 refine q_then ?_
 refine w_seq ?_
 refine w_block ?_
 refine w_seq ?_
 refine w_R ?_
 refine qm hnt rfl rfl ?_
 refine qo hnt rfl (s_lenM (l := b) tab_51 rfl (hM_sl (f := enc8) rfl) ?_)
 refine qo hnt rfl (s_eql rfl rfl ?_)
 refine qa hnt rfl rfl ?_
 refine r_end ?_
 refine q_then ?_
 refine w_if rfl (fun c1 => ?_) (fun c1 => ?_)
 ·
  have c1_ := c1
  try simp only [sB] at c1
  refine w_seq ?_
  refine w_R ?_
  refine qo hnt rfl (s_build tab_53 rfl rfl (b_nil ?_))
  refine qo hnt rfl (s_store_ptr tab_53 rfl rfl rfl rfl rfl (Nat.le_of_ble_eq_true rfl) ?_)
  refine qa hnt rfl rfl ?_
  refine r_set [(4,PV.ptr 1 0),(5,pI 13)] [(1,.obj [pI 0,pI 0,pI 0,pI 0,pI 0,pNil,pNil,p16 0,p16 0,pNil]),(0,.obj (cRequest q))] 2 ⟨rfl,rfl,trivial⟩ rfl rfl ?_
  refine r_end ?_
  refine q_then ?_
  have hz1 : 0 = R.1.fn ∧ 0 = R.1.code ∧ 0 = R.1.at_ ∧ 0 = R.1.count ∧ 0 = R.1.sub ∧ ([] : List Bool) = R.1.bits ∧ ([] : List UInt16) = R.1.vals ∧ 0 = R.1.and_ ∧ 0 = R.1.or_ ∧ ([] : List UInt8) = R.1.data := by refine ⟨?_, ?_, ?_, ?_, ?_, ?_, ?_, ?_, ?_, ?_⟩ <;> ((rw [hR,takeW_1 (by omega)]; rfl))
  refine w_leO (n := 1) (ds := cReply R.1) rfl ⟨le_of_eq (congrArg (fun z : Int => pI z) hz1.1),le_of_eq (congrArg (fun z : Int => pI z) hz1.2.1),le_of_eq (congrArg (fun z : Int => pI z) hz1.2.2.1),le_of_eq (congrArg (fun z : Int => pI z) hz1.2.2.2.1),le_of_eq (congrArg (fun z : Int => pI z) hz1.2.2.2.2.1),le_tr (le_nilS 1 false) (le_of_eq (congrArg (fun z => pS 1 false encBo z) hz1.2.2.2.2.2.1)),le_tr (le_nilS 1 false) (le_of_eq (congrArg (fun z => pS 1 false enc16 z) hz1.2.2.2.2.2.2.1)),le_of_eq (congrArg (fun z : UInt16 => p16 z) hz1.2.2.2.2.2.2.2.1),le_of_eq (congrArg (fun z : UInt16 => p16 z) hz1.2.2.2.2.2.2.2.2.1),le_tr (le_nilS 1 false) (le_of_eq (congrArg (fun z => pS 1 false enc8 z) hz1.2.2.2.2.2.2.2.2.2)),trivial⟩ ?_
  refine w_le (s := 5) (y := pI R.2) rfl (le_of_eq (congrArg (fun z : Int => pI z) (show 13 = R.2 by (rw [hR,takeW_1 (by omega)]; done)))) ?_
  refine w_ret ?_
  refine q_block_ret ?_
  refine q_then_ret ?_
  exact fin_plain (ret_cell tab_53 (by decide) rfl rfl (Nat.le_of_ble_eq_true rfl) rfl (ret_tmp rfl ret_nil)) rfl rfl ⟨rfl,rfl,rfl⟩
 have c1_ := c1
 try simp only [sB] at c1
 refine w_seq ?_
 refine W_drawn tabOk mixed hnt [[],[0],[0,1],[0,1,2],[0,1,2,3],[0,1,2,3,4],[0,1,2,3,4,5],[0,1,2,3,4,5,6],[0,1,2,3],[0,1,2,3,8],[0,1,2,3,4,5,6,7,8,9],[0,1,2,3,4,5,6,7,8,9,10],[0,1,2,3,4,5,6,7,8,9,10,11],[0,1,2,3,4,5,6,7,8,9,10,11,12],[0,1,2,3,4,5,6,7,8,9,10,11,12,13],[0,1,2,3,4,5,6,7,8,9,10,11,12,13,14],[0,1,2,3,4,5,6,7,8,9,10,11,12,13,14,15],[0,1,2,3,4,5,6,7,8,9,10,11],[0,1,2,3,4,5,6,7,8,9,10,11,17],[0,1,2,3,4,5,6,7,8,9,10,11,12,13,14,15,16,17,18],[0,1,2,3,4,5,6,7,8,9,10,11,12,13,14,15,16,17,18,19],[0,1,2,3,4,5,6,7,8,9,10,11,12,13,14,15,16,17,18,19,20],[0,1,2,3,4,5,6,7,8,9,10,11,12,13,14,15,16,17,18,19,20,21]] (by kernel_rfl) ?_
 refine d_op ?_
 refine x_run0 [(3,PV.ptr 0 0)] [] rfl rfl rfl rfl (s_fa_ptr tab_46 rfl rfl tab_3 (by decide) rfl ⟨rfl,rfl,rfl⟩) ?_
 refine d_op ?_
 refine xL [(15,PV.ptr 0 0)] [0] [(0,.obj (cRequest q))] rfl rfl rfl rfl rfl (s_load_ptr1 tab_3 rfl rfl rfl rfl rfl ⟨rfl,rfl,rfl⟩) ⟨rfl,trivial⟩ rfl ?_
 refine d_op ?_
 refine x_run0 [(16,pI q.fn)] [0,1] rfl rfl rfl rfl (s_lss rfl rfl ⟨rfl,rfl,rfl⟩) ?_
 refine d_op ?_
 refine x_run0 [(17,pB (decide (q.fn < 0)))] [0,1,2] rfl rfl rfl rfl (s_move rfl ⟨rfl,rfl,rfl⟩) ?_
 refine x_if [(18,pB (decide (q.fn < 0))),(0,pS 1 cl_b enc8 b)] [0,1,2,3] rfl rfl rfl rfl (fun g1 => ?_) (fun g1 => ?_)
 ·
  have g1' := g1
  try simp only [sB] at g1'
  refine x_run0 [(18,pB (decide (q.fn < 0))),(0,pS 1 cl_b enc8 b)] [0,1,2,3] rfl rfl rfl rfl (s_move rfl ⟨rfl,rfl,rfl⟩) ?_
  refine xy [(18,pB (decide (q.fn < 0))),(19,pS 1 cl_b enc8 b)] [0,1,2,3,4] rfl rfl rfl rfl g1 ?_
  obtain ⟨e1,he1⟩ := get_of_lt b (i := 0) (by omega)
  refine x_run0 [(18,pB (decide (q.fn < 0))),(19,pS 1 cl_b enc8 b)] [0,1,2,3,4] rfl rfl rfl rfl (s_iaM (q := 0) (b := e1) (f := enc8) tab_51 rfl tab_5 rfl rfl (by omega) rfl he1 ⟨rfl,rfl,rfl⟩) ?_
  refine xy [(18,pB (decide (q.fn < 0))),(20,PV.f (.ro (enc8 e1)))] [0,1,2,3,4,5] rfl rfl rfl rfl g1 ?_
  refine x_run0 [(18,pB (decide (q.fn < 0))),(20,PV.f (.ro (enc8 e1)))] [0,1,2,3,4,5] rfl rfl rfl rfl (s_load_ro1 tab_5 rfl rfl rfl rfl ⟨rfl,rfl,rfl⟩) ?_
  refine xy [(18,pB (decide (q.fn < 0))),(21,p8 e1)] [0,1,2,3,4,5,6] rfl rfl rfl rfl g1 ?_
  refine x_run0 [(18,pB (decide (q.fn < 0))),(21,p8 e1)] [0,1,2,3,4,5,6] rfl rfl rfl rfl (s_cvN (a := UInt8.toNat e1) tab_5 tab_3 rfl rfl rfl (by omega) (by have := lt8 e1; omega) ⟨rfl,rfl,rfl⟩) ?_
  refine xy [(18,pB (decide (q.fn < 0))),(3,PV.ptr 0 0)] [0,1,2,3] rfl rfl rfl rfl g1 ?_
  refine x_run0 [(18,pB (decide (q.fn < 0))),(3,PV.ptr 0 0)] [0,1,2,3] rfl rfl rfl rfl (s_fa_ptr tab_46 rfl rfl tab_3 (by decide) rfl ⟨rfl,rfl,rfl⟩) ?_
  refine xy [(18,pB (decide (q.fn < 0))),(23,PV.ptr 0 0)] [0,1,2,3,8] rfl rfl rfl rfl g1 ?_
  refine xL [(18,pB (decide (q.fn < 0))),(23,PV.ptr 0 0)] [0,1,2,3,8] [(0,.obj (cRequest q))] rfl rfl rfl rfl rfl (s_load_ptr1 tab_3 rfl rfl rfl rfl rfl ⟨rfl,rfl,rfl⟩) ⟨rfl,trivial⟩ rfl ?_
  refine xy [(18,pB (decide (q.fn < 0))),(22,pN (UInt8.toNat e1)),(24,pI q.fn)] [0,1,2,3,4,5,6,7,8,9] rfl rfl rfl rfl g1 ?_
  refine x_run0 [(18,pB (decide (q.fn < 0))),(22,pN (UInt8.toNat e1)),(24,pI q.fn)] [0,1,2,3,4,5,6,7,8,9] rfl rfl rfl rfl (s_neq rfl rfl ⟨rfl,rfl,rfl⟩) ?_
  refine xy [(18,pB (decide (q.fn < 0))),(25,pB (!decide (((UInt8.toNat e1 : Nat) : Int) = q.fn)))] [0,1,2,3,4,5,6,7,8,9,10] rfl rfl rfl rfl g1 ?_
  refine x_run0 [(18,pB (decide (q.fn < 0))),(25,pB (!decide (((UInt8.toNat e1 : Nat) : Int) = q.fn)))] [0,1,2,3,4,5,6,7,8,9,10] rfl rfl rfl rfl (s_move rfl ⟨rfl,rfl,rfl⟩) ?_
  refine x_if [(26,pB (!decide (((UInt8.toNat e1 : Nat) : Int) = q.fn))),(0,pS 1 cl_b enc8 b)] [0,1,2,3,4,5,6,7,8,9,10,11] rfl rfl rfl rfl (fun g2 => ?_) (fun g2 => ?_)
  ·
   have g2' := g2
   try simp only [sB] at g2'
   have hel := e1.toNat_lt
   refine x_run0 [(26,pB (!decide (((UInt8.toNat e1 : Nat) : Int) = q.fn))),(0,pS 1 cl_b enc8 b)] [0,1,2,3,4,5,6,7,8,9,10,11] rfl rfl rfl rfl (s_move rfl ⟨rfl,rfl,rfl⟩) ?_
   refine xy [(26,pB (!decide (((UInt8.toNat e1 : Nat) : Int) = q.fn))),(27,pS 1 cl_b enc8 b)] [0,1,2,3,4,5,6,7,8,9,10,11,12] rfl rfl rfl rfl g2 ?_
   refine x_run0 [(26,pB (!decide (((UInt8.toNat e1 : Nat) : Int) = q.fn))),(27,pS 1 cl_b enc8 b)] [0,1,2,3,4,5,6,7,8,9,10,11,12] rfl rfl rfl rfl (s_iaM (q := 0) (b := e1) (f := enc8) tab_51 rfl tab_5 rfl rfl (by omega) rfl he1 ⟨rfl,rfl,rfl⟩) ?_
   refine xy [(26,pB (!decide (((UInt8.toNat e1 : Nat) : Int) = q.fn))),(28,PV.f (.ro (enc8 e1)))] [0,1,2,3,4,5,6,7,8,9,10,11,12,13] rfl rfl rfl rfl g2 ?_
   refine x_run0 [(26,pB (!decide (((UInt8.toNat e1 : Nat) : Int) = q.fn))),(28,PV.f (.ro (enc8 e1)))] [0,1,2,3,4,5,6,7,8,9,10,11,12,13] rfl rfl rfl rfl (s_load_ro1 tab_5 rfl rfl rfl rfl ⟨rfl,rfl,rfl⟩) ?_
   refine xy [(26,pB (!decide (((UInt8.toNat e1 : Nat) : Int) = q.fn))),(29,p8 e1)] [0,1,2,3,4,5,6,7,8,9,10,11,12,13,14] rfl rfl rfl rfl g2 ?_
   refine x_run0 [(26,pB (!decide (((UInt8.toNat e1 : Nat) : Int) = q.fn))),(29,p8 e1)] [0,1,2,3,4,5,6,7,8,9,10,11,12,13,14] rfl rfl rfl rfl (s_cvN (a := UInt8.toNat e1) tab_5 tab_3 rfl rfl rfl (by omega) (by have := lt8 e1; omega) ⟨rfl,rfl,rfl⟩) ?_
   refine xy [(26,pB (!decide (((UInt8.toNat e1 : Nat) : Int) = q.fn))),(30,pN (UInt8.toNat e1))] [0,1,2,3,4,5,6,7,8,9,10,11,12,13,14,15] rfl rfl rfl rfl g2 ?_
   refine x_run0 [(26,pB (!decide (((UInt8.toNat e1 : Nat) : Int) = q.fn))),(30,pN (UInt8.toNat e1))] [0,1,2,3,4,5,6,7,8,9,10,11,12,13,14,15] rfl rfl rfl rfl (s_subi (r := ((UInt8.toNat e1 : Nat) : Int) - 128) rfl rfl rfl (by omega) ⟨rfl,rfl,rfl⟩) ?_
   refine xy [(26,pB (!decide (((UInt8.toNat e1 : Nat) : Int) = q.fn))),(3,PV.ptr 0 0)] [0,1,2,3,4,5,6,7,8,9,10,11] rfl rfl rfl rfl g2 ?_
   refine x_run0 [(26,pB (!decide (((UInt8.toNat e1 : Nat) : Int) = q.fn))),(3,PV.ptr 0 0)] [0,1,2,3,4,5,6,7,8,9,10,11] rfl rfl rfl rfl (s_fa_ptr tab_46 rfl rfl tab_3 (by decide) rfl ⟨rfl,rfl,rfl⟩) ?_
   refine xy [(26,pB (!decide (((UInt8.toNat e1 : Nat) : Int) = q.fn))),(32,PV.ptr 0 0)] [0,1,2,3,4,5,6,7,8,9,10,11,17] rfl rfl rfl rfl g2 ?_
   refine xL [(26,pB (!decide (((UInt8.toNat e1 : Nat) : Int) = q.fn))),(32,PV.ptr 0 0)] [0,1,2,3,4,5,6,7,8,9,10,11,17] [(0,.obj (cRequest q))] rfl rfl rfl rfl rfl (s_load_ptr1 tab_3 rfl rfl rfl rfl rfl ⟨rfl,rfl,rfl⟩) ⟨rfl,trivial⟩ rfl ?_
   refine xy [(26,pB (!decide (((UInt8.toNat e1 : Nat) : Int) = q.fn))),(31,pI (((UInt8.toNat e1 : Nat) : Int) - 128)),(33,pI q.fn)] [0,1,2,3,4,5,6,7,8,9,10,11,12,13,14,15,16,17,18] rfl rfl rfl rfl g2 ?_
   refine x_run0 [(26,pB (!decide (((UInt8.toNat e1 : Nat) : Int) = q.fn))),(31,pI (((UInt8.toNat e1 : Nat) : Int) - 128)),(33,pI q.fn)] [0,1,2,3,4,5,6,7,8,9,10,11,12,13,14,15,16,17,18] rfl rfl rfl rfl (s_neq rfl rfl ⟨rfl,rfl,rfl⟩) ?_
   refine xy [(18,pB (decide (q.fn < 0))),(26,pB (!decide (((UInt8.toNat e1 : Nat) : Int) = q.fn))),(34,pB (!decide (((UInt8.toNat e1 : Nat) : Int) - 128 = q.fn)))] [0,1,2,3,4,5,6,7,8,9,10,11,12,13,14,15,16,17,18,19] rfl rfl rfl rfl g1 ?_
   refine x_run0 [(18,pB (decide (q.fn < 0))),(26,pB (!decide (((UInt8.toNat e1 : Nat) : Int) = q.fn))),(34,pB (!decide (((UInt8.toNat e1 : Nat) : Int) - 128 = q.fn)))] [0,1,2,3,4,5,6,7,8,9,10,11,12,13,14,15,16,17,18,19] rfl rfl rfl rfl (s_pick_t rfl g2 rfl ⟨rfl,rfl,rfl⟩) ?_
   refine d_op ?_
   refine x_run0 [(18,pB (decide (q.fn < 0))),(35,pB (!decide (((UInt8.toNat e1 : Nat) : Int) - 128 = q.fn)))] [0,1,2,3,4,5,6,7,8,9,10,11,12,13,14,15,16,17,18,19,20] rfl rfl rfl rfl (s_pick_f rfl g1 rfl ⟨rfl,rfl,rfl⟩) ?_
   refine d_op ?_
   refine x_run0 [(36,pB (!decide (((UInt8.toNat e1 : Nat) : Int) - 128 = q.fn)))] [0,1,2,3,4,5,6,7,8,9,10,11,12,13,14,15,16,17,18,19,20,21] rfl rfl rfl rfl (s_assign rfl ⟨rfl,rfl,rfl⟩) ?_
   refine d_end ⟨by kernel_rfl, ?_⟩
   refine q_then ?_
   refine w_if rfl (fun c2 => ?_) (fun c2 => ?_)
   ·
    have c2_ := c2
    try simp only [sB] at c2
    have hb0 : b.getD 0 0 = e1 := by rw [List.getD_eq_getElem?_getD,he1]; rfl
    refine w_seq ?_
    refine w_R ?_
    refine qo hnt rfl (s_build tab_53 rfl rfl (b_nil ?_))
    refine qo hnt rfl (s_store_ptr tab_53 rfl rfl rfl rfl rfl (Nat.le_of_ble_eq_true rfl) ?_)
    refine qa hnt rfl rfl ?_
    refine r_set [(4,PV.ptr 1 0),(5,pI 12)] [(1,.obj [pI 0,pI 0,pI 0,pI 0,pI 0,pNil,pNil,p16 0,p16 0,pNil]),(0,.obj (cRequest q))] 2 ⟨rfl,rfl,trivial⟩ rfl rfl ?_
    refine r_end ?_
    refine q_then ?_
    have hz2 : 0 = R.1.fn ∧ 0 = R.1.code ∧ 0 = R.1.at_ ∧ 0 = R.1.count ∧ 0 = R.1.sub ∧ ([] : List Bool) = R.1.bits ∧ ([] : List UInt16) = R.1.vals ∧ 0 = R.1.and_ ∧ 0 = R.1.or_ ∧ ([] : List UInt8) = R.1.data := by refine ⟨?_, ?_, ?_, ?_, ?_, ?_, ?_, ?_, ?_, ?_⟩ <;> ((rw [hR,takeW_2 (by omega) hb0 (by omega)]; rfl))
    refine w_leO (n := 1) (ds := cReply R.1) rfl ⟨le_of_eq (congrArg (fun z : Int => pI z) hz2.1),le_of_eq (congrArg (fun z : Int => pI z) hz2.2.1),le_of_eq (congrArg (fun z : Int => pI z) hz2.2.2.1),le_of_eq (congrArg (fun z : Int => pI z) hz2.2.2.2.1),le_of_eq (congrArg (fun z : Int => pI z) hz2.2.2.2.2.1),le_tr (le_nilS 1 false) (le_of_eq (congrArg (fun z => pS 1 false encBo z) hz2.2.2.2.2.2.1)),le_tr (le_nilS 1 false) (le_of_eq (congrArg (fun z => pS 1 false enc16 z) hz2.2.2.2.2.2.2.1)),le_of_eq (congrArg (fun z : UInt16 => p16 z) hz2.2.2.2.2.2.2.2.1),le_of_eq (congrArg (fun z : UInt16 => p16 z) hz2.2.2.2.2.2.2.2.2.1),le_tr (le_nilS 1 false) (le_of_eq (congrArg (fun z => pS 1 false enc8 z) hz2.2.2.2.2.2.2.2.2.2)),trivial⟩ ?_
    refine w_le (s := 5) (y := pI R.2) rfl (le_of_eq (congrArg (fun z : Int => pI z) (show 12 = R.2 by (rw [hR,takeW_2 (by omega) hb0 (by omega)]; done)))) ?_
    refine w_ret ?_
    refine q_block_ret ?_
    refine q_then_ret ?_
    exact fin_plain (ret_cell tab_53 (by decide) rfl rfl (Nat.le_of_ble_eq_true rfl) rfl (ret_tmp rfl ret_nil)) rfl rfl ⟨rfl,rfl,rfl⟩
   have c2_ := c2
   try simp only [sB] at c2
   refine w_skip ?_
   refine q_block ?_
   refine q_then ?_
   refine w_seq ?_
   have hb0 : b.getD 0 0 = e1 := by rw [List.getD_eq_getElem?_getD,he1]; rfl
   refine w_R ?_
   refine qm hnt rfl rfl ?_
   refine qo hnt rfl (s_load_ptr tab_46 rfl rfl rfl (Nat.le_of_ble_eq_true rfl) ?_)
   obtain ⟨G1,hG1⟩ : ∃ z : TReply,z = takeP b q := ⟨_,rfl⟩
   refine qo hnt rfl (s_callF rfl rfl rfl (w_reply_guess b cl_b q G1 hG1 (by omega) (by omega) (by omega)) rfl ?_)
   refine qo hnt rfl (s_alloc tab_53 ?_)
   refine qo hnt rfl (s_store_ptr tab_53 rfl rfl rfl rfl rfl (Nat.le_of_ble_eq_true rfl) ?_)
   refine r_set [(0,pS 1 cl_b enc8 b),(3,PV.ptr 0 0),(4,PV.ptr 1 0),(6,PV.ptr 2 0)] [(2,.obj (cReply G1)),(1,.obj [pI 0,pI 0,pI 0,pI 0,pI 0,pNil,pNil,p16 0,p16 0,pNil]),(0,.obj (cRequest q))] 3 ⟨rfl,rfl,rfl,rfl,trivial⟩ rfl rfl ?_
   refine r_end ?_
   refine q_then ?_
   refine w_seq ?_
   refine w_seq ?_
   have hgl := takeP_len (b := b) (q := q) (by omega) (by omega)
   rw [← hG1] at hgl
   refine w_R ?_
   refine qo hnt rfl (s_load_ptr tab_53 rfl rfl rfl (Nat.le_of_ble_eq_true rfl) ?_)
   refine qo hnt rfl (s_callF rfl rfl rfl (w_reply_Bytes G1 (by omega)) rfl ?_)
   refine qm hnt rfl rfl ?_
   refine qo hnt rfl (s_extract rfl rfl ?_)
   refine qo hnt rfl (s_extract rfl rfl ?_)
   refine qa hnt rfl rfl ?_
   refine qa hnt rfl rfl ?_
   refine r_end ?_
   refine q_then ?_
   refine w_seq ?_
   have hlE := layE_len G1
   refine w_R ?_
   refine qm hnt rfl rfl ?_
   refine qo hnt rfl (s_neq rfl rfl ?_)
   refine qm hnt rfl rfl ?_
   refine r_cut0 5 [(3,PV.ptr 0 0),(4,PV.ptr 1 0),(6,PV.ptr 2 0),(53,pB ((!decide (goodR G1 = 0)) || (!(decide ((layE G1) = b)))))] ?_ ?_
   ·
    refine r_if tabOk hnt rfl rfl rfl (fun g3 => ?_) (fun g3 => ?_)
    ·
     have g3' := g3
     try simp only [sB] at g3'
     refine qm hnt rfl rfl ?_
     refine ry hnt rfl rfl rfl g3 ?_
     refine qm hnt rfl rfl ?_
     refine ry hnt rfl rfl rfl g3 ?_
     refine qo hnt rfl (s_callF rfl rfl rfl (w_slices_Equal_byte_byte (layE G1) false b cl_b (by omega)) rfl ?_)
     refine ry hnt rfl rfl rfl g3 ?_
     refine qo hnt rfl (s_not rfl ?_)
     refine qo hnt rfl (s_pick_f rfl g3 rfl ?_)
     refine r_eq (s := 53) (y := pB ((!decide (goodR G1 = 0)) || (!(decide ((layE G1) = b))))) rfl (mix_of g3) ?_
     exact r_mid ⟨⟨rfl,rfl,rfl,rfl,trivial⟩,rfl,rfl⟩
    ·
     have g3' := g3
     try simp only [sB] at g3'
     refine rn hnt rfl rfl rfl g3 ?_
     refine rn hnt rfl rfl rfl g3 ?_
     refine rn hnt rfl rfl rfl g3 ?_
     refine qo hnt rfl (s_pick_t rfl g3 rfl ?_)
     refine r_eq (s := 53) (y := pB ((!decide (goodR G1 = 0)) || (!(decide ((layE G1) = b))))) rfl (mix_ot _ g3) ?_
     exact r_mid ⟨⟨rfl,rfl,rfl,rfl,trivial⟩,rfl,rfl⟩
   ·
    refine qm hnt rfl rfl ?_
    refine r_cut0 5 [(4,PV.ptr 1 0),(6,PV.ptr 2 0),(59,pB (((!decide (goodR G1 = 0)) || (!(decide ((layE G1) = b)))) || (!(decide (countOk G1 q)))))] ?_ ?_
    ·
     refine r_if tabOk hnt rfl rfl rfl (fun g4 => ?_) (fun g4 => ?_)
     ·
      have g4' := g4
      try simp only [sB] at g4'
      refine qo hnt rfl (s_load_ptr tab_53 rfl rfl rfl (Nat.le_of_ble_eq_true rfl) ?_)
      refine ry hnt rfl rfl rfl g4 ?_
      refine qo hnt rfl (s_load_ptr tab_46 rfl rfl rfl (Nat.le_of_ble_eq_true rfl) ?_)
      refine ry hnt rfl rfl rfl g4 ?_
      refine qo hnt rfl (s_callF rfl rfl rfl (w_reply_asked G1 q (by omega)) rfl ?_)
      refine ry hnt rfl rfl rfl g4 ?_
      refine qo hnt rfl (s_not rfl ?_)
      refine qo hnt rfl (s_pick_f rfl g4 rfl ?_)
      refine r_eq (s := 59) (y := pB (((!decide (goodR G1 = 0)) || (!(decide ((layE G1) = b)))) || (!(decide (countOk G1 q))))) rfl (mix_of g4) ?_
      exact r_mid ⟨⟨rfl,rfl,rfl,trivial⟩,rfl,rfl⟩
     ·
      have g4' := g4
      try simp only [sB] at g4'
      refine rn hnt rfl rfl rfl g4 ?_
      refine rn hnt rfl rfl rfl g4 ?_
      refine rn hnt rfl rfl rfl g4 ?_
      refine qo hnt rfl (s_pick_t rfl g4 rfl ?_)
      refine r_eq (s := 59) (y := pB (((!decide (goodR G1 = 0)) || (!(decide ((layE G1) = b)))) || (!(decide (countOk G1 q))))) rfl (mix_ot _ g4) ?_
      exact r_mid ⟨⟨rfl,rfl,rfl,trivial⟩,rfl,rfl⟩
    ·
     refine r_end ?_
     refine q_then ?_
     refine w_if rfl (fun c3 => ?_) (fun c3 => ?_)
     ·
      have c3_ := c3
      try simp only [sB] at c3
      refine w_seq ?_
      refine w_R ?_
      refine qo hnt rfl (s_build tab_53 rfl rfl (b_nil ?_))
      refine qo hnt rfl (s_store_ptr tab_53 rfl rfl rfl rfl rfl (Nat.le_of_ble_eq_true rfl) ?_)
      refine qa hnt rfl rfl ?_
      refine r_set [(4,PV.ptr 1 0),(5,pI 12)] [(1,.obj [pI 0,pI 0,pI 0,pI 0,pI 0,pNil,pNil,p16 0,p16 0,pNil]),(2,.obj (cReply G1)),(0,.obj (cRequest q))] 3 ⟨rfl,rfl,trivial⟩ rfl rfl ?_
      refine r_end ?_
      refine q_then ?_
      have hz3 : 0 = R.1.fn ∧ 0 = R.1.code ∧ 0 = R.1.at_ ∧ 0 = R.1.count ∧ 0 = R.1.sub ∧ ([] : List Bool) = R.1.bits ∧ ([] : List UInt16) = R.1.vals ∧ 0 = R.1.and_ ∧ 0 = R.1.or_ ∧ ([] : List UInt8) = R.1.data := by refine ⟨?_, ?_, ?_, ?_, ?_, ?_, ?_, ?_, ?_, ?_⟩ <;> ((rw [hR,takeW_3 (by omega) hb0 (by omega) hG1 (fun x y z => by simp [x,layE_yes x,y,z] at c3_)]; rfl))
      refine w_leO (n := 1) (ds := cReply R.1) rfl ⟨le_of_eq (congrArg (fun z : Int => pI z) hz3.1),le_of_eq (congrArg (fun z : Int => pI z) hz3.2.1),le_of_eq (congrArg (fun z : Int => pI z) hz3.2.2.1),le_of_eq (congrArg (fun z : Int => pI z) hz3.2.2.2.1),le_of_eq (congrArg (fun z : Int => pI z) hz3.2.2.2.2.1),le_tr (le_nilS 1 false) (le_of_eq (congrArg (fun z => pS 1 false encBo z) hz3.2.2.2.2.2.1)),le_tr (le_nilS 1 false) (le_of_eq (congrArg (fun z => pS 1 false enc16 z) hz3.2.2.2.2.2.2.1)),le_of_eq (congrArg (fun z : UInt16 => p16 z) hz3.2.2.2.2.2.2.2.1),le_of_eq (congrArg (fun z : UInt16 => p16 z) hz3.2.2.2.2.2.2.2.2.1),le_tr (le_nilS 1 false) (le_of_eq (congrArg (fun z => pS 1 false enc8 z) hz3.2.2.2.2.2.2.2.2.2)),trivial⟩ ?_
      refine w_le (s := 5) (y := pI R.2) rfl (le_of_eq (congrArg (fun z : Int => pI z) (show 12 = R.2 by (rw [hR,takeW_3 (by omega) hb0 (by omega) hG1 (fun x y z => by simp [x,layE_yes x,y,z] at c3_)]; done)))) ?_
      refine w_ret ?_
      refine q_then_ret ?_
      exact fin_plain (ret_cell tab_53 (by decide) rfl rfl (Nat.le_of_ble_eq_true rfl) rfl (ret_tmp rfl ret_nil)) rfl rfl ⟨rfl,rfl,rfl⟩
     have c3_ := c3
     try simp only [sB] at c3
     refine w_skip ?_
     refine q_then ?_
     refine w_seq ?_
     refine w_R ?_
     refine qo hnt rfl (s_load_ptr tab_53 rfl rfl rfl (Nat.le_of_ble_eq_true rfl) ?_)
     refine qo hnt rfl (s_store_ptr tab_53 rfl rfl rfl rfl rfl (Nat.le_of_ble_eq_true rfl) ?_)
     refine qa hnt rfl rfl ?_
     refine r_set [(4,PV.ptr 1 0),(5,pI 0)] [(1,.obj (cReply G1)),(2,.obj (cReply G1)),(0,.obj (cRequest q))] 3 ⟨rfl,rfl,trivial⟩ rfl rfl ?_
     refine r_end ?_
     refine q_then ?_
     have hz4 : G1.fn = R.1.fn ∧ G1.code = R.1.code ∧ G1.at_ = R.1.at_ ∧ G1.count = R.1.count ∧ G1.sub = R.1.sub ∧ G1.bits = R.1.bits ∧ G1.vals = R.1.vals ∧ G1.and_ = R.1.and_ ∧ G1.or_ = R.1.or_ ∧ G1.data = R.1.data := by refine ⟨?_, ?_, ?_, ?_, ?_, ?_, ?_, ?_, ?_, ?_⟩ <;> ((have hc9 := c3_; simp only [Bool.or_eq_false_iff,Bool.not_eq_false',decide_eq_true_eq] at hc9; obtain ⟨⟨x,y⟩,z⟩ := hc9; rw [layE_yes x] at y; rw [hR,takeW_4 (by omega) hb0 (by omega) hG1 x y z]; done))
     refine w_leO (n := 1) (ds := cReply R.1) rfl ⟨le_of_eq (congrArg (fun z : Int => pI z) hz4.1),le_of_eq (congrArg (fun z : Int => pI z) hz4.2.1),le_of_eq (congrArg (fun z : Int => pI z) hz4.2.2.1),le_of_eq (congrArg (fun z : Int => pI z) hz4.2.2.2.1),le_of_eq (congrArg (fun z : Int => pI z) hz4.2.2.2.2.1),le_of_eq (congrArg (fun z => pS 1 false encBo z) hz4.2.2.2.2.2.1),le_of_eq (congrArg (fun z => pS 1 false enc16 z) hz4.2.2.2.2.2.2.1),le_of_eq (congrArg (fun z : UInt16 => p16 z) hz4.2.2.2.2.2.2.2.1),le_of_eq (congrArg (fun z : UInt16 => p16 z) hz4.2.2.2.2.2.2.2.2.1),le_of_eq (congrArg (fun z => pS 1 false enc8 z) hz4.2.2.2.2.2.2.2.2.2),trivial⟩ ?_
     refine w_le (s := 5) (y := pI R.2) rfl (le_of_eq (congrArg (fun z : Int => pI z) (show 0 = R.2 by (have hc9 := c3_; simp only [Bool.or_eq_false_iff,Bool.not_eq_false',decide_eq_true_eq] at hc9; obtain ⟨⟨x,y⟩,z⟩ := hc9; rw [layE_yes x] at y; rw [hR,takeW_4 (by omega) hb0 (by omega) hG1 x y z]; done)))) ?_
     refine w_ret ?_
     exact fin_plain (ret_cell tab_53 (by decide) rfl rfl (Nat.le_of_ble_eq_true rfl) rfl (ret_tmp rfl ret_nil)) rfl rfl ⟨rfl,rfl,rfl⟩
  have g2' := g2
  try simp only [sB] at g2'
  refine xn [(26,pB (!decide (((UInt8.toNat e1 : Nat) : Int) = q.fn))),(27,undefP)] [0,1,2,3,4,5,6,7,8,9,10,11,12] rfl rfl rfl rfl g2 ?_
  refine xn [(26,pB (!decide (((UInt8.toNat e1 : Nat) : Int) = q.fn))),(28,undefP)] [0,1,2,3,4,5,6,7,8,9,10,11,12,13] rfl rfl rfl rfl g2 ?_
  refine xn [(26,pB (!decide (((UInt8.toNat e1 : Nat) : Int) = q.fn))),(29,undefP)] [0,1,2,3,4,5,6,7,8,9,10,11,12,13,14] rfl rfl rfl rfl g2 ?_
  refine xn [(26,pB (!decide (((UInt8.toNat e1 : Nat) : Int) = q.fn))),(30,undefP)] [0,1,2,3,4,5,6,7,8,9,10,11,12,13,14,15] rfl rfl rfl rfl g2 ?_
  refine xn [(26,pB (!decide (((UInt8.toNat e1 : Nat) : Int) = q.fn))),(3,PV.ptr 0 0)] [0,1,2,3,4,5,6,7,8,9,10,11] rfl rfl rfl rfl g2 ?_
  refine xn [(26,pB (!decide (((UInt8.toNat e1 : Nat) : Int) = q.fn))),(32,undefP)] [0,1,2,3,4,5,6,7,8,9,10,11,17] rfl rfl rfl rfl g2 ?_
  refine xn [(26,pB (!decide (((UInt8.toNat e1 : Nat) : Int) = q.fn))),(31,undefP),(33,undefP)] [0,1,2,3,4,5,6,7,8,9,10,11,12,13,14,15,16,17,18] rfl rfl rfl rfl g2 ?_
  refine xy [(18,pB (decide (q.fn < 0))),(26,pB (!decide (((UInt8.toNat e1 : Nat) : Int) = q.fn))),(34,undefP)] [0,1,2,3,4,5,6,7,8,9,10,11,12,13,14,15,16,17,18,19] rfl rfl rfl rfl g1 ?_
  refine x_run0 [(18,pB (decide (q.fn < 0))),(26,pB (!decide (((UInt8.toNat e1 : Nat) : Int) = q.fn))),(34,undefP)] [0,1,2,3,4,5,6,7,8,9,10,11,12,13,14,15,16,17,18,19] rfl rfl rfl rfl (s_pick_f rfl g2 rfl ⟨rfl,rfl,rfl⟩) ?_
  refine d_op ?_
  refine x_run0 [(18,pB (decide (q.fn < 0))),(35,pB false)] [0,1,2,3,4,5,6,7,8,9,10,11,12,13,14,15,16,17,18,19,20] rfl rfl rfl rfl (s_pick_f rfl g1 rfl ⟨rfl,rfl,rfl⟩) ?_
  refine d_op ?_
  refine x_run0 [(36,pB false)] [0,1,2,3,4,5,6,7,8,9,10,11,12,13,14,15,16,17,18,19,20,21] rfl rfl rfl rfl (s_assign rfl ⟨rfl,rfl,rfl⟩) ?_
  refine d_end ⟨by kernel_rfl, ?_⟩
  refine q_then ?_
  refine w_if rfl (fun e => absurd e (by decide)) (fun _ => ?_)
  refine w_skip ?_
  refine q_block ?_
  refine q_then ?_
  refine w_seq ?_
  have hb0 : b.getD 0 0 = e1 := by rw [List.getD_eq_getElem?_getD,he1]; rfl
  refine w_R ?_
  refine qm hnt rfl rfl ?_
  refine qo hnt rfl (s_load_ptr tab_46 rfl rfl rfl (Nat.le_of_ble_eq_true rfl) ?_)
  obtain ⟨G2,hG2⟩ : ∃ z : TReply,z = takeP b q := ⟨_,rfl⟩
  refine qo hnt rfl (s_callF rfl rfl rfl (w_reply_guess b cl_b q G2 hG2 (by omega) (by omega) (by omega)) rfl ?_)
  refine qo hnt rfl (s_alloc tab_53 ?_)
  refine qo hnt rfl (s_store_ptr tab_53 rfl rfl rfl rfl rfl (Nat.le_of_ble_eq_true rfl) ?_)
  refine r_set [(0,pS 1 cl_b enc8 b),(3,PV.ptr 0 0),(4,PV.ptr 1 0),(6,PV.ptr 2 0)] [(2,.obj (cReply G2)),(1,.obj [pI 0,pI 0,pI 0,pI 0,pI 0,pNil,pNil,p16 0,p16 0,pNil]),(0,.obj (cRequest q))] 3 ⟨rfl,rfl,rfl,rfl,trivial⟩ rfl rfl ?_
  refine r_end ?_
  refine q_then ?_
  refine w_seq ?_
  refine w_seq ?_
  have hgl := takeP_len (b := b) (q := q) (by omega) (by omega)
  rw [← hG2] at hgl
  refine w_R ?_
  refine qo hnt rfl (s_load_ptr tab_53 rfl rfl rfl (Nat.le_of_ble_eq_true rfl) ?_)
  refine qo hnt rfl (s_callF rfl rfl rfl (w_reply_Bytes G2 (by omega)) rfl ?_)
  refine qm hnt rfl rfl ?_
  refine qo hnt rfl (s_extract rfl rfl ?_)
  refine qo hnt rfl (s_extract rfl rfl ?_)
  refine qa hnt rfl rfl ?_
  refine qa hnt rfl rfl ?_
  refine r_end ?_
  refine q_then ?_
  refine w_seq ?_
  have hlE := layE_len G2
  refine w_R ?_
  refine qm hnt rfl rfl ?_
  refine qo hnt rfl (s_neq rfl rfl ?_)
  refine qm hnt rfl rfl ?_
  refine r_cut0 5 [(3,PV.ptr 0 0),(4,PV.ptr 1 0),(6,PV.ptr 2 0),(53,pB ((!decide (goodR G2 = 0)) || (!(decide ((layE G2) = b)))))] ?_ ?_
  ·
   refine r_if tabOk hnt rfl rfl rfl (fun g5 => ?_) (fun g5 => ?_)
   ·
    have g5' := g5
    try simp only [sB] at g5'
    refine qm hnt rfl rfl ?_
    refine ry hnt rfl rfl rfl g5 ?_
    refine qm hnt rfl rfl ?_
    refine ry hnt rfl rfl rfl g5 ?_
    refine qo hnt rfl (s_callF rfl rfl rfl (w_slices_Equal_byte_byte (layE G2) false b cl_b (by omega)) rfl ?_)
    refine ry hnt rfl rfl rfl g5 ?_
    refine qo hnt rfl (s_not rfl ?_)
    refine qo hnt rfl (s_pick_f rfl g5 rfl ?_)
    refine r_eq (s := 53) (y := pB ((!decide (goodR G2 = 0)) || (!(decide ((layE G2) = b))))) rfl (mix_of g5) ?_
    exact r_mid ⟨⟨rfl,rfl,rfl,rfl,trivial⟩,rfl,rfl⟩
   ·
    have g5' := g5
    try simp only [sB] at g5'
    refine rn hnt rfl rfl rfl g5 ?_
    refine rn hnt rfl rfl rfl g5 ?_
    refine rn hnt rfl rfl rfl g5 ?_
    refine qo hnt rfl (s_pick_t rfl g5 rfl ?_)
    refine r_eq (s := 53) (y := pB ((!decide (goodR G2 = 0)) || (!(decide ((layE G2) = b))))) rfl (mix_ot _ g5) ?_
    exact r_mid ⟨⟨rfl,rfl,rfl,rfl,trivial⟩,rfl,rfl⟩
  ·
   refine qm hnt rfl rfl ?_
   refine r_cut0 5 [(4,PV.ptr 1 0),(6,PV.ptr 2 0),(59,pB (((!decide (goodR G2 = 0)) || (!(decide ((layE G2) = b)))) || (!(decide (countOk G2 q)))))] ?_ ?_
   ·
    refine r_if tabOk hnt rfl rfl rfl (fun g6 => ?_) (fun g6 => ?_)
    ·
     have g6' := g6
     try simp only [sB] at g6'
     refine qo hnt rfl (s_load_ptr tab_53 rfl rfl rfl (Nat.le_of_ble_eq_true rfl) ?_)
     refine ry hnt rfl rfl rfl g6 ?_
     refine qo hnt rfl (s_load_ptr tab_46 rfl rfl rfl (Nat.le_of_ble_eq_true rfl) ?_)
     refine ry hnt rfl rfl rfl g6 ?_
     refine qo hnt rfl (s_callF rfl rfl rfl (w_reply_asked G2 q (by omega)) rfl ?_)
     refine ry hnt rfl rfl rfl g6 ?_
     refine qo hnt rfl (s_not rfl ?_)
     refine qo hnt rfl (s_pick_f rfl g6 rfl ?_)
     refine r_eq (s := 59) (y := pB (((!decide (goodR G2 = 0)) || (!(decide ((layE G2) = b)))) || (!(decide (countOk G2 q))))) rfl (mix_of g6) ?_
     exact r_mid ⟨⟨rfl,rfl,rfl,trivial⟩,rfl,rfl⟩
    ·
     have g6' := g6
     try simp only [sB] at g6'
     refine rn hnt rfl rfl rfl g6 ?_
     refine rn hnt rfl rfl rfl g6 ?_
     refine rn hnt rfl rfl rfl g6 ?_
     refine qo hnt rfl (s_pick_t rfl g6 rfl ?_)
     refine r_eq (s := 59) (y := pB (((!decide (goodR G2 = 0)) || (!(decide ((layE G2) = b)))) || (!(decide (countOk G2 q))))) rfl (mix_ot _ g6) ?_
     exact r_mid ⟨⟨rfl,rfl,rfl,trivial⟩,rfl,rfl⟩
   ·
    refine r_end ?_
    refine q_then ?_
    refine w_if rfl (fun c4 => ?_) (fun c4 => ?_)
    ·
     have c4_ := c4
     try simp only [sB] at c4
     refine w_seq ?_
     refine w_R ?_
     refine qo hnt rfl (s_build tab_53 rfl rfl (b_nil ?_))
     refine qo hnt rfl (s_store_ptr tab_53 rfl rfl rfl rfl rfl (Nat.le_of_ble_eq_true rfl) ?_)
     refine qa hnt rfl rfl ?_
     refine r_set [(4,PV.ptr 1 0),(5,pI 12)] [(1,.obj [pI 0,pI 0,pI 0,pI 0,pI 0,pNil,pNil,p16 0,p16 0,pNil]),(2,.obj (cReply G2)),(0,.obj (cRequest q))] 3 ⟨rfl,rfl,trivial⟩ rfl rfl ?_
     refine r_end ?_
     refine q_then ?_
     have hz5 : 0 = R.1.fn ∧ 0 = R.1.code ∧ 0 = R.1.at_ ∧ 0 = R.1.count ∧ 0 = R.1.sub ∧ ([] : List Bool) = R.1.bits ∧ ([] : List UInt16) = R.1.vals ∧ 0 = R.1.and_ ∧ 0 = R.1.or_ ∧ ([] : List UInt8) = R.1.data := by refine ⟨?_, ?_, ?_, ?_, ?_, ?_, ?_, ?_, ?_, ?_⟩ <;> ((rw [hR,takeW_3 (by omega) hb0 (by omega) hG2 (fun x y z => by simp [x,layE_yes x,y,z] at c4_)]; rfl))
     refine w_leO (n := 1) (ds := cReply R.1) rfl ⟨le_of_eq (congrArg (fun z : Int => pI z) hz5.1),le_of_eq (congrArg (fun z : Int => pI z) hz5.2.1),le_of_eq (congrArg (fun z : Int => pI z) hz5.2.2.1),le_of_eq (congrArg (fun z : Int => pI z) hz5.2.2.2.1),le_of_eq (congrArg (fun z : Int => pI z) hz5.2.2.2.2.1),le_tr (le_nilS 1 false) (le_of_eq (congrArg (fun z => pS 1 false encBo z) hz5.2.2.2.2.2.1)),le_tr (le_nilS 1 false) (le_of_eq (congrArg (fun z => pS 1 false enc16 z) hz5.2.2.2.2.2.2.1)),le_of_eq (congrArg (fun z : UInt16 => p16 z) hz5.2.2.2.2.2.2.2.1),le_of_eq (congrArg (fun z : UInt16 => p16 z) hz5.2.2.2.2.2.2.2.2.1),le_tr (le_nilS 1 false) (le_of_eq (congrArg (fun z => pS 1 false enc8 z) hz5.2.2.2.2.2.2.2.2.2)),trivial⟩ ?_
     refine w_le (s := 5) (y := pI R.2) rfl (le_of_eq (congrArg (fun z : Int => pI z) (show 12 = R.2 by (rw [hR,takeW_3 (by omega) hb0 (by omega) hG2 (fun x y z => by simp [x,layE_yes x,y,z] at c4_)]; done)))) ?_
     refine w_ret ?_
     refine q_then_ret ?_
     exact fin_plain (ret_cell tab_53 (by decide) rfl rfl (Nat.le_of_ble_eq_true rfl) rfl (ret_tmp rfl ret_nil)) rfl rfl ⟨rfl,rfl,rfl⟩
    have c4_ := c4
    try simp only [sB] at c4
    refine w_skip ?_
    refine q_then ?_
    refine w_seq ?_
    refine w_R ?_
    refine qo hnt rfl (s_load_ptr tab_53 rfl rfl rfl (Nat.le_of_ble_eq_true rfl) ?_)
    refine qo hnt rfl (s_store_ptr tab_53 rfl rfl rfl rfl rfl (Nat.le_of_ble_eq_true rfl) ?_)
    refine qa hnt rfl rfl ?_
    refine r_set [(4,PV.ptr 1 0),(5,pI 0)] [(1,.obj (cReply G2)),(2,.obj (cReply G2)),(0,.obj (cRequest q))] 3 ⟨rfl,rfl,trivial⟩ rfl rfl ?_
    refine r_end ?_
    refine q_then ?_
    have hz6 : G2.fn = R.1.fn ∧ G2.code = R.1.code ∧ G2.at_ = R.1.at_ ∧ G2.count = R.1.count ∧ G2.sub = R.1.sub ∧ G2.bits = R.1.bits ∧ G2.vals = R.1.vals ∧ G2.and_ = R.1.and_ ∧ G2.or_ = R.1.or_ ∧ G2.data = R.1.data := by refine ⟨?_, ?_, ?_, ?_, ?_, ?_, ?_, ?_, ?_, ?_⟩ <;> ((have hc9 := c4_; simp only [Bool.or_eq_false_iff,Bool.not_eq_false',decide_eq_true_eq] at hc9; obtain ⟨⟨x,y⟩,z⟩ := hc9; rw [layE_yes x] at y; rw [hR,takeW_4 (by omega) hb0 (by omega) hG2 x y z]; done))
    refine w_leO (n := 1) (ds := cReply R.1) rfl ⟨le_of_eq (congrArg (fun z : Int => pI z) hz6.1),le_of_eq (congrArg (fun z : Int => pI z) hz6.2.1),le_of_eq (congrArg (fun z : Int => pI z) hz6.2.2.1),le_of_eq (congrArg (fun z : Int => pI z) hz6.2.2.2.1),le_of_eq (congrArg (fun z : Int => pI z) hz6.2.2.2.2.1),le_of_eq (congrArg (fun z => pS 1 false encBo z) hz6.2.2.2.2.2.1),le_of_eq (congrArg (fun z => pS 1 false enc16 z) hz6.2.2.2.2.2.2.1),le_of_eq (congrArg (fun z : UInt16 => p16 z) hz6.2.2.2.2.2.2.2.1),le_of_eq (congrArg (fun z : UInt16 => p16 z) hz6.2.2.2.2.2.2.2.2.1),le_of_eq (congrArg (fun z => pS 1 false enc8 z) hz6.2.2.2.2.2.2.2.2.2),trivial⟩ ?_
    refine w_le (s := 5) (y := pI R.2) rfl (le_of_eq (congrArg (fun z : Int => pI z) (show 0 = R.2 by (have hc9 := c4_; simp only [Bool.or_eq_false_iff,Bool.not_eq_false',decide_eq_true_eq] at hc9; obtain ⟨⟨x,y⟩,z⟩ := hc9; rw [layE_yes x] at y; rw [hR,takeW_4 (by omega) hb0 (by omega) hG2 x y z]; done)))) ?_
    refine w_ret ?_
    exact fin_plain (ret_cell tab_53 (by decide) rfl rfl (Nat.le_of_ble_eq_true rfl) rfl (ret_tmp rfl ret_nil)) rfl rfl ⟨rfl,rfl,rfl⟩
 have g1' := g1
 try simp only [sB] at g1'
 refine xn [(18,pB (decide (q.fn < 0))),(19,undefP)] [0,1,2,3,4] rfl rfl rfl rfl g1 ?_
 refine xn [(18,pB (decide (q.fn < 0))),(20,undefP)] [0,1,2,3,4,5] rfl rfl rfl rfl g1 ?_
 refine xn [(18,pB (decide (q.fn < 0))),(21,undefP)] [0,1,2,3,4,5,6] rfl rfl rfl rfl g1 ?_
 refine xn [(18,pB (decide (q.fn < 0))),(3,PV.ptr 0 0)] [0,1,2,3] rfl rfl rfl rfl g1 ?_
 refine xn [(18,pB (decide (q.fn < 0))),(23,undefP)] [0,1,2,3,8] rfl rfl rfl rfl g1 ?_
 refine xn [(18,pB (decide (q.fn < 0))),(22,undefP),(24,undefP)] [0,1,2,3,4,5,6,7,8,9] rfl rfl rfl rfl g1 ?_
 refine xn [(18,pB (decide (q.fn < 0))),(25,undefP)] [0,1,2,3,4,5,6,7,8,9,10] rfl rfl rfl rfl g1 ?_
 refine x_undef [(26,undefP),(0,pS 1 cl_b enc8 b)] [0,1,2,3,4,5,6,7,8,9,10,11] rfl rfl rfl rfl ?_
 refine x_undef [(26,undefP),(27,undefP)] [0,1,2,3,4,5,6,7,8,9,10,11,12] rfl rfl rfl rfl ?_
 refine x_undef [(26,undefP),(28,undefP)] [0,1,2,3,4,5,6,7,8,9,10,11,12,13] rfl rfl rfl rfl ?_
 refine x_undef [(26,undefP),(29,undefP)] [0,1,2,3,4,5,6,7,8,9,10,11,12,13,14] rfl rfl rfl rfl ?_
 refine x_undef [(26,undefP),(30,undefP)] [0,1,2,3,4,5,6,7,8,9,10,11,12,13,14,15] rfl rfl rfl rfl ?_
 refine x_undef [(26,undefP),(3,PV.ptr 0 0)] [0,1,2,3,4,5,6,7,8,9,10,11] rfl rfl rfl rfl ?_
 refine x_undef [(26,undefP),(32,undefP)] [0,1,2,3,4,5,6,7,8,9,10,11,17] rfl rfl rfl rfl ?_
 refine x_undef [(26,undefP),(31,undefP),(33,undefP)] [0,1,2,3,4,5,6,7,8,9,10,11,12,13,14,15,16,17,18] rfl rfl rfl rfl ?_
 refine xn [(18,pB (decide (q.fn < 0))),(26,undefP),(34,undefP)] [0,1,2,3,4,5,6,7,8,9,10,11,12,13,14,15,16,17,18,19] rfl rfl rfl rfl g1 ?_
 refine d_op ?_
 refine x_run0 [(18,pB (decide (q.fn < 0))),(35,undefP)] [0,1,2,3,4,5,6,7,8,9,10,11,12,13,14,15,16,17,18,19,20] rfl rfl rfl rfl (s_pick_t rfl g1 rfl ⟨rfl,rfl,rfl⟩) ?_
 refine d_op ?_
 refine x_run0 [(36,pB true)] [0,1,2,3,4,5,6,7,8,9,10,11,12,13,14,15,16,17,18,19,20,21] rfl rfl rfl rfl (s_assign rfl ⟨rfl,rfl,rfl⟩) ?_
 refine d_end ⟨by kernel_rfl, ?_⟩
 refine q_then ?_
 refine w_if rfl (fun _ => ?_) (fun e => absurd e (by decide))
 refine w_seq ?_
 refine w_R ?_
 refine qo hnt rfl (s_build tab_53 rfl rfl (b_nil ?_))
 refine qo hnt rfl (s_store_ptr tab_53 rfl rfl rfl rfl rfl (Nat.le_of_ble_eq_true rfl) ?_)
 refine qa hnt rfl rfl ?_
 refine r_set [(4,PV.ptr 1 0),(5,pI 12)] [(1,.obj [pI 0,pI 0,pI 0,pI 0,pI 0,pNil,pNil,p16 0,p16 0,pNil]),(0,.obj (cRequest q))] 2 ⟨rfl,rfl,trivial⟩ rfl rfl ?_
 refine r_end ?_
 refine q_then ?_
 have hz7 : 0 = R.1.fn ∧ 0 = R.1.code ∧ 0 = R.1.at_ ∧ 0 = R.1.count ∧ 0 = R.1.sub ∧ ([] : List Bool) = R.1.bits ∧ ([] : List UInt16) = R.1.vals ∧ 0 = R.1.and_ ∧ 0 = R.1.or_ ∧ ([] : List UInt8) = R.1.data := by refine ⟨?_, ?_, ?_, ?_, ?_, ?_, ?_, ?_, ?_, ?_⟩ <;> ((rw [hR,takeW_2 (e := b.getD 0 0) (by omega) rfl (by omega)]; rfl))
 refine w_leO (n := 1) (ds := cReply R.1) rfl ⟨le_of_eq (congrArg (fun z : Int => pI z) hz7.1),le_of_eq (congrArg (fun z : Int => pI z) hz7.2.1),le_of_eq (congrArg (fun z : Int => pI z) hz7.2.2.1),le_of_eq (congrArg (fun z : Int => pI z) hz7.2.2.2.1),le_of_eq (congrArg (fun z : Int => pI z) hz7.2.2.2.2.1),le_tr (le_nilS 1 false) (le_of_eq (congrArg (fun z => pS 1 false encBo z) hz7.2.2.2.2.2.1)),le_tr (le_nilS 1 false) (le_of_eq (congrArg (fun z => pS 1 false enc16 z) hz7.2.2.2.2.2.2.1)),le_of_eq (congrArg (fun z : UInt16 => p16 z) hz7.2.2.2.2.2.2.2.1),le_of_eq (congrArg (fun z : UInt16 => p16 z) hz7.2.2.2.2.2.2.2.2.1),le_tr (le_nilS 1 false) (le_of_eq (congrArg (fun z => pS 1 false enc8 z) hz7.2.2.2.2.2.2.2.2.2)),trivial⟩ ?_
 refine w_le (s := 5) (y := pI R.2) rfl (le_of_eq (congrArg (fun z : Int => pI z) (show 12 = R.2 by (rw [hR,takeW_2 (e := b.getD 0 0) (by omega) rfl (by omega)]; done)))) ?_
 refine w_ret ?_
 refine q_block_ret ?_
 refine q_then_ret ?_
 exact fin_plain (ret_cell tab_53 (by decide) rfl rfl (Nat.le_of_ble_eq_true rfl) rfl (ret_tmp rfl ret_nil)) rfl rfl ⟨rfl,rfl,rfl⟩
end Go.Proofs.Ytljkbpgcglomfaa
set_option linter.unusedVariables false
set_option linter.unusedSimpArgs false
set_option maxRecDepth 10000
set_option maxHeartbeats 1000000
namespace Go.Proofs.Ytljkbpgcglomfaa
open Go Go.Proofs.Ytljkbpgcglomfaa.Pv
theorem w_burgagekeep_Functions   :
    T Try.prog 52 [] 0 [] (Ret (PV.ref 0 0 none) 1 [(0,oB true 1 encI fnsL)]) := by
 refine t_fun tabOk (n := 2) (rs := [.tmp 0]) Try.func52 rfl rfl rfl rfl (Nat.le_of_ble_eq_true rfl) ?_
 intro c hnt hk
 refine w_seq ?_
 refine w_R ?_
 refine qa hnt rfl rfl ?_
 refine r_end ?_
 refine q_then ?_
 refine w_seq ?_
 refine w_R ?_
 refine qo hnt rfl (s_mkM (f := encI) ([1,2,3,4,5,6,8,15,16,17,22,23] : List Int) tab_24 rfl tab_3 ⟨rfl,by decide⟩ (by decide) rfl rfl rfl rfl ?_)
 refine qa hnt rfl rfl ?_
 refine r_set [(0,PV.ref 0 0 none)] [(0,oB true 1 encI ([1,2,3,4,5,6,8,15,16,17,22,23] : List Int))] 1 ⟨rfl,trivial⟩ rfl rfl ?_
 refine r_end ?_
 refine q_then ?_
 refine w_H (H' := [(0,oB true 1 encI fnsL)]) (congrArg (fun z => ([(0,oB true 1 encI z)] : Heap)) (show ([1,2,3,4,5,6,8,15,16,17,22,23] : List Int) = fnsL by rfl)) ?_
 refine w_ret ?_
 exact fin_names (nx1 := 1) (H1 := [(0,oB true 1 encI fnsL)]) [(0,0)] (ret_tmp rfl ret_nil) rfl (by decide) ⟨⟨_,_,rfl,rfl,rfl,rfl⟩,trivial⟩ (by decide) rfl ⟨rfl,rfl,rfl⟩
theorem w_burgagekeep_Tape_Next (L : List Int) (cl_L : Bool) (a : Nat) (n : Int) (hL : L.length ≤ 70000000000000) (hn : -9223372036854775808 ≤ n ∧ n ≤ 9223372036854775807) :
    T Try.prog 53 [PV.ptr 0 0,pI n] 1 [(0,.obj [pS 1 cl_L encI L,pN a])] (Ret (pI (tNext L a n)) 1 [(0,.obj [pS 1 false encI L,pN (tStep L a n)])]) := by
 refine t_fun tabOk (n := 40) (rs := [.tmp 4]) Try.func53 rfl rfl rfl rfl (Nat.le_of_ble_eq_true rfl) ?_
 intro c hnt hk
 refine w_seq ?_
 refine w_R ?_
 refine qa hnt rfl rfl ?_
 refine r_end ?_
 refine q_then ?_
 refine w_seq ?_
 refine w_seq ?_
 refine W_drawn tabOk mixed hnt [[],[0],[0,1],[0,1,2],[],[4],[4,5],[4,5,6],[4,5,6,7],[0,1,2,3,4,5,6,7,8],[0,1,2,3,4,5,6,7,8,9],[0,1,2,3,4,5,6,7,8,9,10],[0,1,2,3,4,5,6,7,8,9,10,11],[0,1,2,3,4,5,6,7,8,9,10,11,12]] (by kernel_rfl) ?_
 refine d_op ?_
 refine x_run0 [(0,PV.ptr 0 0)] [] rfl rfl rfl rfl (s_move rfl ⟨rfl,rfl,rfl⟩) ?_
 refine d_op ?_
 refine x_run0 [(5,PV.ptr 0 0)] [0] rfl rfl rfl rfl (s_nilCheck rfl trivial ⟨rfl,rfl,rfl⟩) ?_
 refine d_op ?_
 refine x_run0 [(6,PV.ptr 0 0)] [0,1] rfl rfl rfl rfl (s_fa_ptr tab_49 rfl rfl tab_3 (by decide) rfl ⟨rfl,rfl,rfl⟩) ?_
 refine d_op ?_
 refine xL [(7,PV.ptr 0 1)] [0,1,2] [(0,.obj [pS 1 cl_L encI L,pN a])] rfl rfl rfl rfl rfl (s_load_ptr1 tab_3 rfl rfl rfl rfl rfl ⟨rfl,rfl,rfl⟩) ⟨rfl,trivial⟩ rfl ?_
 refine d_op ?_
 refine x_run0 [(0,PV.ptr 0 0)] [] rfl rfl rfl rfl (s_move rfl ⟨rfl,rfl,rfl⟩) ?_
 refine d_op ?_
 refine x_run0 [(9,PV.ptr 0 0)] [4] rfl rfl rfl rfl (s_nilCheck rfl trivial ⟨rfl,rfl,rfl⟩) ?_
 refine d_op ?_
 refine x_run0 [(10,PV.ptr 0 0)] [4,5] rfl rfl rfl rfl (s_fa_ptr tab_49 rfl rfl tab_24 (by decide) rfl ⟨rfl,rfl,rfl⟩) ?_
 refine d_op ?_
 refine xL [(11,PV.ptr 0 0)] [4,5,6] [(0,.obj [pS 1 cl_L encI L,pN a])] rfl rfl rfl rfl rfl (s_load_ptr1 tab_24 rfl rfl rfl rfl rfl ⟨rfl,rfl,rfl⟩) ⟨rfl,trivial⟩ rfl ?_
 refine d_op ?_
 refine x_run0 [(12,pS 1 cl_L encI L)] [4,5,6,7] rfl rfl rfl rfl (s_lenM (l := L) tab_24 rfl (hM_sl (f := encI) rfl) ⟨rfl,rfl,rfl⟩) ?_
 refine d_op ?_
 refine x_run0 [(8,pN a),(13,pN L.length)] [0,1,2,3,4,5,6,7,8] rfl rfl rfl rfl (s_geq rfl rfl ⟨rfl,rfl,rfl⟩) ?_
 refine d_op ?_
 refine x_run0 [(14,pB (decide (((L.length : Nat) : Int) ≤ ((a : Nat) : Int))))] [0,1,2,3,4,5,6,7,8,9] rfl rfl rfl rfl (s_move rfl ⟨rfl,rfl,rfl⟩) ?_
 refine x_if [(15,pB (decide (((L.length : Nat) : Int) ≤ ((a : Nat) : Int)))),(1,pI n)] [0,1,2,3,4,5,6,7,8,9,10] rfl rfl rfl rfl (fun g1 => ?_) (fun g1 => ?_)
 ·
  have g1' := g1
  try simp only [sB] at g1'
  refine x_run0 [(15,pB (decide (((L.length : Nat) : Int) ≤ ((a : Nat) : Int)))),(1,pI n)] [0,1,2,3,4,5,6,7,8,9,10] rfl rfl rfl rfl (s_move rfl ⟨rfl,rfl,rfl⟩) ?_
  refine xy [(15,pB (decide (((L.length : Nat) : Int) ≤ ((a : Nat) : Int)))),(16,pI n)] [0,1,2,3,4,5,6,7,8,9,10,11] rfl rfl rfl rfl g1 ?_
  refine x_run0 [(15,pB (decide (((L.length : Nat) : Int) ≤ ((a : Nat) : Int)))),(16,pI n)] [0,1,2,3,4,5,6,7,8,9,10,11] rfl rfl rfl rfl (s_lss rfl rfl ⟨rfl,rfl,rfl⟩) ?_
  refine d_op ?_
  refine x_run0 [(15,pB (decide (((L.length : Nat) : Int) ≤ ((a : Nat) : Int)))),(17,pB (decide (n < 1)))] [0,1,2,3,4,5,6,7,8,9,10,11,12] rfl rfl rfl rfl (s_pick_f rfl g1 rfl ⟨rfl,rfl,rfl⟩) ?_
  refine d_end ⟨by kernel_rfl, ?_⟩
  refine q_then ?_
  refine w_if rfl (fun c1 => ?_) (fun c1 => ?_)
  ·
   have c1_ := c1
   try simp only [sB] at c1
   refine w_seq ?_
   refine w_R ?_
   refine qa hnt rfl rfl ?_
   refine r_end ?_
   refine q_then ?_
   refine w_le (s := 4) (y := pI (tNext L a n)) rfl (le_of_eq (congrArg (fun z : Int => pI z) (show 0 = (tNext L a n) by (unfold tNext; rw [if_pos (by omega)]; done)))) ?_
   have hz1 : a = (tStep L a n) := by ((unfold tStep; rw [if_pos (by omega)]; done))
   refine w_leO (n := 0) (ds := [pS 1 false encI L,pN (tStep L a n)]) rfl ⟨le_loose,le_of_eq (congrArg (fun z : Nat => pN z) hz1),trivial⟩ ?_
   refine w_ret ?_
   refine q_then_ret ?_
   exact fin_names (nx1 := 1) (H1 := [(0,.obj [pS 1 false encI L,pN (tStep L a n)])]) [(0,0)] (ret_tmp rfl ret_nil) rfl (by decide) ⟨⟨_,_,rfl,rfl,rfl,rfl⟩,trivial⟩ (by decide) rfl ⟨rfl,rfl,rfl⟩
  have c1_ := c1
  try simp only [sB] at c1
  refine w_skip ?_
  refine q_then ?_
  refine w_seq ?_
  refine w_R ?_
  refine qm hnt rfl rfl ?_
  refine qo hnt rfl (s_nilCheck rfl trivial ?_)
  refine qo hnt rfl (s_fa_ptr tab_49 rfl rfl tab_3 (by decide) rfl ?_)
  refine qo hnt rfl (s_load_ptr1 tab_3 rfl rfl rfl rfl rfl ?_)
  refine qo hnt rfl (s_addN (a := a) (b := 1) rfl rfl (by omega) (by omega) (by omega) ?_)
  refine qo hnt rfl (s_nilCheck rfl trivial ?_)
  refine qo hnt rfl (s_fa_ptr tab_49 rfl rfl tab_3 (by decide) rfl ?_)
  refine qo hnt rfl (s_store_ptr tab_3 rfl rfl rfl rfl rfl (Nat.le_of_ble_eq_true rfl) ?_)
  refine r_set [(0,PV.ptr 0 0),(1,pI n)] [(0,.obj [pS 1 cl_L encI L,pN (a + 1)])] 1 ⟨rfl,rfl,trivial⟩ rfl rfl ?_
  refine r_end ?_
  refine q_then ?_
  refine w_seq ?_
  refine W_drawn tabOk mixed hnt [[],[0],[0,1],[0,1,2],[],[4],[4,5],[4,5,6],[4,5,6,7],[0,1,2,3,4,5,6,7,8],[0,1,2,3,4,5,6,7,8,9],[0,1,2,3,4,5,6,7,8,9,10],[],[0,1,2,3,4,5,6,7,8,9,10,11,12],[0,1,2,3,4,5,6,7,8,9,10,11,12,13]] (by kernel_rfl) ?_
  refine d_op ?_
  refine x_run0 [(0,PV.ptr 0 0)] [] rfl rfl rfl rfl (s_move rfl ⟨rfl,rfl,rfl⟩) ?_
  refine d_op ?_
  refine x_run0 [(26,PV.ptr 0 0)] [0] rfl rfl rfl rfl (s_nilCheck rfl trivial ⟨rfl,rfl,rfl⟩) ?_
  refine d_op ?_
  refine x_run0 [(27,PV.ptr 0 0)] [0,1] rfl rfl rfl rfl (s_fa_ptr tab_49 rfl rfl tab_24 (by decide) rfl ⟨rfl,rfl,rfl⟩) ?_
  refine d_op ?_
  refine xL [(28,PV.ptr 0 0)] [0,1,2] [(0,.obj [pS 1 cl_L encI L,pN (a + 1)])] rfl rfl rfl rfl rfl (s_load_ptr1 tab_24 rfl rfl rfl rfl rfl ⟨rfl,rfl,rfl⟩) ⟨rfl,trivial⟩ rfl ?_
  refine d_op ?_
  refine x_run0 [(0,PV.ptr 0 0)] [] rfl rfl rfl rfl (s_move rfl ⟨rfl,rfl,rfl⟩) ?_
  refine d_op ?_
  refine x_run0 [(30,PV.ptr 0 0)] [4] rfl rfl rfl rfl (s_nilCheck rfl trivial ⟨rfl,rfl,rfl⟩) ?_
  refine d_op ?_
  refine x_run0 [(31,PV.ptr 0 0)] [4,5] rfl rfl rfl rfl (s_fa_ptr tab_49 rfl rfl tab_3 (by decide) rfl ⟨rfl,rfl,rfl⟩) ?_
  refine d_op ?_
  refine xL [(32,PV.ptr 0 1)] [4,5,6] [(0,.obj [pS 1 cl_L encI L,pN (a + 1)])] rfl rfl rfl rfl rfl (s_load_ptr1 tab_3 rfl rfl rfl rfl rfl ⟨rfl,rfl,rfl⟩) ⟨rfl,trivial⟩ rfl ?_
  refine d_op ?_
  refine x_run0 [(33,pN (a + 1))] [4,5,6,7] rfl rfl rfl rfl (s_subN (a := a + 1) (b := 1) rfl rfl (by omega) (by omega) (by omega) ⟨rfl,rfl,rfl⟩) ?_
  refine d_op ?_
  obtain ⟨e1,he1⟩ := get_of_lt L (i := a + 1 - 1) (by omega)
  refine x_run0 [(29,pS 1 cl_L encI L),(34,pN (a + 1 - 1))] [0,1,2,3,4,5,6,7,8] rfl rfl rfl rfl (s_iaM (q := a + 1 - 1) (b := e1) (f := encI) tab_24 rfl tab_3 rfl rfl (by omega) rfl he1 ⟨rfl,rfl,rfl⟩) ?_
  refine d_op ?_
  refine x_run0 [(35,PV.f (.ro (encI e1)))] [0,1,2,3,4,5,6,7,8,9] rfl rfl rfl rfl (s_load_ro1 tab_3 rfl rfl rfl rfl ⟨rfl,rfl,rfl⟩) ?_
  refine d_op ?_
  refine x_run0 [(36,pI e1)] [0,1,2,3,4,5,6,7,8,9,10] rfl rfl rfl rfl (s_callF rfl rfl rfl (w_burgagebook_Within e1 0 1073741824 (by omega)) rfl ⟨rfl,rfl,rfl⟩) ?_
  refine d_op ?_
  refine x_run0 [(1,pI n)] [] rfl rfl rfl rfl (s_move rfl ⟨rfl,rfl,rfl⟩) ?_
  refine d_op ?_
  refine x_run0 [(37,pI (within e1 0 1073741824)),(38,pI n)] [0,1,2,3,4,5,6,7,8,9,10,11,12] rfl rfl rfl rfl (s_rem rfl rfl (by omega) ⟨rfl,rfl,rfl⟩) ?_
  refine d_op ?_
  refine x_run0 [(39,pI (Int.tmod (within e1 0 1073741824) n))] [0,1,2,3,4,5,6,7,8,9,10,11,12,13] rfl rfl rfl rfl (s_assign rfl ⟨rfl,rfl,rfl⟩) ?_
  refine d_end ⟨by kernel_rfl, ?_⟩
  refine q_then ?_
  refine w_le (s := 4) (y := pI (tNext L a n)) rfl (le_of_eq (congrArg (fun z : Int => pI z) (show (Int.tmod (within e1 0 1073741824) n) = (tNext L a n) by (unfold tNext; rw [if_neg (by omega),List.getD_eq_getElem?_getD,show L[a]? = some e1 from he1]; rfl)))) ?_
  have hz2 : (a + 1) = (tStep L a n) := by ((unfold tStep; rw [if_neg (by omega)]; done))
  refine w_leO (n := 0) (ds := [pS 1 false encI L,pN (tStep L a n)]) rfl ⟨le_loose,le_of_eq (congrArg (fun z : Nat => pN z) hz2),trivial⟩ ?_
  refine w_ret ?_
  exact fin_names (nx1 := 1) (H1 := [(0,.obj [pS 1 false encI L,pN (tStep L a n)])]) [(0,0)] (ret_tmp rfl ret_nil) rfl (by decide) ⟨⟨_,_,rfl,rfl,rfl,rfl⟩,trivial⟩ (by decide) rfl ⟨rfl,rfl,rfl⟩
 have g1' := g1
 try simp only [sB] at g1'
 refine xn [(15,pB (decide (((L.length : Nat) : Int) ≤ ((a : Nat) : Int)))),(16,undefP)] [0,1,2,3,4,5,6,7,8,9,10,11] rfl rfl rfl rfl g1 ?_
 refine d_op ?_
 refine x_run0 [(15,pB (decide (((L.length : Nat) : Int) ≤ ((a : Nat) : Int)))),(17,undefP)] [0,1,2,3,4,5,6,7,8,9,10,11,12] rfl rfl rfl rfl (s_pick_t rfl g1 rfl ⟨rfl,rfl,rfl⟩) ?_
 refine d_end ⟨by kernel_rfl, ?_⟩
 refine q_then ?_
 refine w_if rfl (fun _ => ?_) (fun e => absurd e (by decide))
 refine w_seq ?_
 refine w_R ?_
 refine qa hnt rfl rfl ?_
 refine r_end ?_
 refine q_then ?_
 refine w_le (s := 4) (y := pI (tNext L a n)) rfl (le_of_eq (congrArg (fun z : Int => pI z) (show 0 = (tNext L a n) by (unfold tNext; rw [if_pos (by omega)]; done)))) ?_
 have hz3 : a = (tStep L a n) := by ((unfold tStep; rw [if_pos (by omega)]; done))
 refine w_leO (n := 0) (ds := [pS 1 false encI L,pN (tStep L a n)]) rfl ⟨le_loose,le_of_eq (congrArg (fun z : Nat => pN z) hz3),trivial⟩ ?_
 refine w_ret ?_
 refine q_then_ret ?_
 exact fin_names (nx1 := 1) (H1 := [(0,.obj [pS 1 false encI L,pN (tStep L a n)])]) [(0,0)] (ret_tmp rfl ret_nil) rfl (by decide) ⟨⟨_,_,rfl,rfl,rfl,rfl⟩,trivial⟩ (by decide) rfl ⟨rfl,rfl,rfl⟩
theorem w_burgagekeep_Tape_Request (L : List Int) (cl_L : Bool) (a : Nat) (hL : L.length ≤ 70000000000000) :
    T Try.prog 20 [PV.ptr 0 0] 1 [(0,.obj [pS 1 cl_L encI L,pN a])] (fun ra rb rc => ∃ q : TRequest,∃ b : Nat,(rightR q = 0 ∧ q.bits.length ≤ 25 ∧ q.vals.length ≤ 25 ∧ 0 ≤ q.count ∧ q.count ≤ 25) ∧ (Ret (PV.f (eRequest q)) 1 [(0,.obj [pS 1 false encI L,pN b])]) ra rb rc) := by
 refine t_fun tabOk (n := 140) (rs := [.cell 2 46]) Try.func20 rfl rfl rfl rfl (Nat.le_of_ble_eq_true rfl) ?_
 intro c hnt hk
 refine w_seq ?_
 refine w_R ?_
 refine qo hnt rfl (s_alloc tab_46 ?_)
 refine r_set [(0,PV.ptr 0 0),(2,PV.ptr 1 0)] [(1,.obj [pI 0,pI 0,pI 0,pI 0,pI 0,pNil,pNil,p16 0,p16 0]),(0,.obj [pS 1 cl_L encI L,pN a])] 2 ⟨rfl,rfl,trivial⟩ rfl rfl ?_
 refine r_end ?_
 refine q_then ?_
 refine w_seq ?_
 refine w_R ?_
 refine qo hnt rfl (s_callX (r2 := PV.ref 2 0 none) (nx1 := 3) (H2 := [(1,.obj [pI 0,pI 0,pI 0,pI 0,pI 0,pNil,pNil,p16 0,p16 0]),(0,.obj [pS 1 cl_L encI L,pN a])]) (H3 := [(2,oB true 1 encI fnsL),(1,.obj [pI 0,pI 0,pI 0,pI 0,pI 0,pNil,pNil,p16 0,p16 0]),(0,.obj [pS 1 cl_L encI L,pN a])]) [] [] rfl rfl rfl (handed_of (by decide) trivial) rfl rfl rfl rfl rfl rfl (w_burgagekeep_Functions) rfl (dist_of rfl) rfl rfl rfl rfl ?_)
 refine qm hnt rfl rfl ?_
 refine qo hnt rfl (s_callX (r2 := pI (tNext L a 12)) (nx1 := 3) (H2 := [(2,oB true 1 encI fnsL),(1,.obj [pI 0,pI 0,pI 0,pI 0,pI 0,pNil,pNil,p16 0,p16 0]),(0,.obj [pS 1 cl_L encI L,pN a])]) (H3 := [(0,.obj [pS 1 false encI L,pN (tStep L a 12)]),(2,oB true 1 encI fnsL),(1,.obj [pI 0,pI 0,pI 0,pI 0,pI 0,pNil,pNil,p16 0,p16 0])]) [0] [.obj [pS 1 cl_L encI L,pN a]] rfl rfl rfl (handed_of (by decide) ⟨rfl,trivial⟩) rfl rfl rfl rfl rfl rfl (w_burgagekeep_Tape_Next L cl_L a 12 (by omega) (by omega)) rfl (dist_of rfl) rfl rfl rfl rfl ?_)
 have h12 := tNext_lt L a (n := 12) (by decide)
 have hfl : fnsL.length = 12 := rfl
 refine qo hnt rfl (s_iaR0 (q := Int.toNat (tNext L a 12)) (f := encI) (l := fnsL) tab_24 rfl tab_3 rfl rfl (by omega) rfl rfl (by omega) ?_)
 obtain ⟨e1,he1⟩ := get_of_lt fnsL (i := Int.toNat (tNext L a 12)) (by omega)
 refine qo hnt rfl (s_ldM (b := e1) (f := encI) tab_3 rfl rfl rfl rfl he1 rfl ?_)
 refine qo hnt rfl (s_build tab_46 rfl rfl (b_cons rfl tab_3 rfl rfl rfl (Nat.le_of_ble_eq_true rfl) (b_nil ?_)))
 refine qo hnt rfl (s_alloc tab_46 ?_)
 refine qo hnt rfl (s_store_ptr tab_46 rfl rfl rfl rfl rfl (Nat.le_of_ble_eq_true rfl) ?_)
 refine r_set [(0,PV.ptr 0 0),(2,PV.ptr 1 0),(3,PV.ptr 3 0)] [(3,.obj [pI e1,pI 0,pI 0,pI 0,pI 0,pNil,pNil,p16 0,p16 0]),(0,.obj [pS 1 false encI L,pN (tStep L a 12)]),(2,oB true 1 encI fnsL),(1,.obj [pI 0,pI 0,pI 0,pI 0,pI 0,pNil,pNil,p16 0,p16 0])] 4 ⟨rfl,rfl,rfl,trivial⟩ rfl rfl ?_
 refine r_end ?_
 refine q_then ?_
 refine w_seq ?_
 have hfn := fns_has he1
 have h70 := tNext_lt L (tStep L a 12) (n := 70) (by decide)
 refine w_R ?_
 refine qm hnt rfl rfl ?_
 refine qo hnt rfl (s_callX (r2 := pI (tNext L (tStep L a 12) 70)) (nx1 := 4) (H2 := [(3,.obj [pI e1,pI 0,pI 0,pI 0,pI 0,pNil,pNil,p16 0,p16 0]),(0,.obj [pS 1 false encI L,pN (tStep L a 12)]),(2,oB true 1 encI fnsL),(1,.obj [pI 0,pI 0,pI 0,pI 0,pI 0,pNil,pNil,p16 0,p16 0])]) (H3 := [(0,.obj [pS 1 false encI L,pN (tStep L (tStep L a 12) 70)]),(3,.obj [pI e1,pI 0,pI 0,pI 0,pI 0,pNil,pNil,p16 0,p16 0]),(2,oB true 1 encI fnsL),(1,.obj [pI 0,pI 0,pI 0,pI 0,pI 0,pNil,pNil,p16 0,p16 0])]) [0] [.obj [pS 1 false encI L,pN (tStep L a 12)]] rfl rfl rfl (handed_of (by decide) ⟨rfl,trivial⟩) rfl rfl rfl rfl rfl rfl (w_burgagekeep_Tape_Next L false (tStep L a 12) 70 (by omega) (by omega)) rfl (dist_of rfl) rfl rfl rfl rfl ?_)
 refine qa hnt rfl rfl ?_
 refine r_set [(0,PV.ptr 0 0),(2,PV.ptr 1 0),(3,PV.ptr 3 0),(4,pI (tNext L (tStep L a 12) 70))] [(0,.obj [pS 1 false encI L,pN (tStep L (tStep L a 12) 70)]),(3,.obj [pI e1,pI 0,pI 0,pI 0,pI 0,pNil,pNil,p16 0,p16 0]),(2,oB true 1 encI fnsL),(1,.obj [pI 0,pI 0,pI 0,pI 0,pI 0,pNil,pNil,p16 0,p16 0])] 4 ⟨rfl,rfl,rfl,rfl,trivial⟩ rfl rfl ?_
 refine r_end ?_
 refine q_then ?_
 refine w_seq ?_
 refine w_seq ?_
 refine w_R ?_
 refine qo hnt rfl (s_fa_ptr tab_46 rfl rfl tab_3 (by decide) rfl ?_)
 refine qo hnt rfl (s_load_ptr1 tab_3 rfl rfl rfl rfl rfl ?_)
 refine r_end ?_
 refine q_then ?_
 refine w_block ?_
 refine w_seq ?_
 refine w_seq ?_
 refine w_R ?_
 refine qo hnt rfl (s_eql rfl rfl ?_)
 refine qa hnt rfl rfl ?_
 refine r_end ?_
 refine q_then ?_
 refine w_if rfl (fun c1 => ?_) (fun c1 => ?_)
 ·
  have c1_ := c1
  try simp only [sB] at c1
  refine w_skip ?_
  refine q_then ?_
  refine w_if rfl (fun _ => ?_) (fun e => absurd (e.symm.trans c1_) (by decide))
  have h26 := tNext_lt L (tStep L (tStep L a 12) 70) (n := 26) (by decide)
  refine w_R ?_
  refine qm hnt rfl rfl ?_
  refine qm hnt rfl rfl ?_
  refine qo hnt rfl (s_callX (r2 := pI (tNext L (tStep L (tStep L a 12) 70) 26)) (nx1 := 4) (H2 := [(0,.obj [pS 1 false encI L,pN (tStep L (tStep L a 12) 70)]),(3,.obj [pI e1,pI 0,pI 0,pI 0,pI 0,pNil,pNil,p16 0,p16 0]),(2,oB true 1 encI fnsL),(1,.obj [pI 0,pI 0,pI 0,pI 0,pI 0,pNil,pNil,p16 0,p16 0])]) (H3 := [(0,.obj [pS 1 false encI L,pN (tStep L (tStep L (tStep L a 12) 70) 26)]),(3,.obj [pI e1,pI 0,pI 0,pI 0,pI 0,pNil,pNil,p16 0,p16 0]),(2,oB true 1 encI fnsL),(1,.obj [pI 0,pI 0,pI 0,pI 0,pI 0,pNil,pNil,p16 0,p16 0])]) [0] [.obj [pS 1 false encI L,pN (tStep L (tStep L a 12) 70)]] rfl rfl rfl (handed_of (by decide) ⟨rfl,trivial⟩) rfl rfl rfl rfl rfl rfl (w_burgagekeep_Tape_Next L false (tStep L (tStep L a 12) 70) 26 (by omega) (by omega)) rfl (dist_of rfl) rfl rfl rfl rfl ?_)
  refine qo hnt rfl (s_fa_ptr tab_46 rfl rfl tab_3 (by decide) rfl ?_)
  refine qo hnt rfl (s_store_ptr tab_3 rfl rfl rfl rfl rfl (Nat.le_of_ble_eq_true rfl) ?_)
  refine qo hnt rfl (s_fa_ptr tab_46 rfl rfl tab_3 (by decide) rfl ?_)
  refine qo hnt rfl (s_store_ptr tab_3 rfl rfl rfl rfl rfl (Nat.le_of_ble_eq_true rfl) ?_)
  refine r_set [(2,PV.ptr 1 0),(3,PV.ptr 3 0)] [(3,.obj [pI e1,pI (tNext L (tStep L a 12) 70),pI (tNext L (tStep L (tStep L a 12) 70) 26),pI 0,pI 0,pNil,pNil,p16 0,p16 0]),(0,.obj [pS 1 false encI L,pN (tStep L (tStep L (tStep L a 12) 70) 26)]),(2,oB true 1 encI fnsL),(1,.obj [pI 0,pI 0,pI 0,pI 0,pI 0,pNil,pNil,p16 0,p16 0])] 4 ⟨rfl,rfl,trivial⟩ rfl rfl ?_
  refine r_end ?_
  refine q_block ?_
  refine q_then ?_
  refine w_seq ?_
  refine w_R ?_
  refine qo hnt rfl (s_load_ptr tab_46 rfl rfl rfl (Nat.le_of_ble_eq_true rfl) ?_)
  refine qo hnt rfl (s_store_ptr tab_46 rfl rfl rfl rfl rfl (Nat.le_of_ble_eq_true rfl) ?_)
  refine r_set [(2,PV.ptr 1 0)] [(1,.obj [pI e1,pI (tNext L (tStep L a 12) 70),pI (tNext L (tStep L (tStep L a 12) 70) 26),pI 0,pI 0,pNil,pNil,p16 0,p16 0]),(3,.obj [pI e1,pI (tNext L (tStep L a 12) 70),pI (tNext L (tStep L (tStep L a 12) 70) 26),pI 0,pI 0,pNil,pNil,p16 0,p16 0]),(0,.obj [pS 1 false encI L,pN (tStep L (tStep L (tStep L a 12) 70) 26)]),(2,oB true 1 encI fnsL)] 4 ⟨rfl,trivial⟩ rfl rfl ?_
  refine r_end ?_
  refine q_then ?_
  refine w_leO (n := 1) (ds := [pI e1,pI (tNext L (tStep L a 12) 70),pI (tNext L (tStep L (tStep L a 12) 70) 26),pI 0,pI 0,pS 1 false encBo [],pS 1 false enc16 [],p16 0,p16 0]) rfl ⟨le_refl _,le_refl _,le_refl _,le_refl _,le_refl _,le_nilS 1 false,le_nilS 1 false,le_refl _,le_refl _,trivial⟩ ?_
  refine w_ret ?_
  have hex : rightR (⟨e1,tNext L (tStep L a 12) 70,tNext L (tStep L (tStep L a 12) 70) 26,0,0,[],[],0,0⟩ : TRequest) = 0 ∧ (⟨e1,tNext L (tStep L a 12) 70,tNext L (tStep L (tStep L a 12) 70) 26,0,0,[],[],0,0⟩ : TRequest).bits.length ≤ 25 ∧ (⟨e1,tNext L (tStep L a 12) 70,tNext L (tStep L (tStep L a 12) 70) 26,0,0,[],[],0,0⟩ : TRequest).vals.length ≤ 25 ∧ 0 ≤ (⟨e1,tNext L (tStep L a 12) 70,tNext L (tStep L (tStep L a 12) 70) 26,0,0,[],[],0,0⟩ : TRequest).count ∧ (⟨e1,tNext L (tStep L a 12) 70,tNext L (tStep L (tStep L a 12) 70) 26,0,0,[],[],0,0⟩ : TRequest).count ≤ 25 := by
    refine ⟨(shapeR_iff (q := _) hfn).2 ?_,by simp; try omega,by simp; try omega,by simp; try omega,by simp; try omega⟩
    constructor
    case bits => simp only; (rw [if_neg (by omega),if_neg (by omega)]; rfl)
    case vals => simp only; (rw [if_neg (by omega),if_neg (by omega),if_neg (by omega)]; rfl)
    all_goals first|(intro _; rfl)|(intro _; exact ⟨rfl,rfl⟩)|(simp only; omega)
  exact fin_names (nx1 := 1) (H1 := [(0,.obj [pS 1 false encI L,pN (tStep L (tStep L (tStep L a 12) 70) 26)])]) [(0,0)] (ret_cell tab_46 (by decide) rfl rfl (Nat.le_of_ble_eq_true rfl) rfl ret_nil) rfl (by decide) ⟨⟨_,_,rfl,rfl,rfl,rfl⟩,trivial⟩ (by decide) rfl ⟨((⟨e1,tNext L (tStep L a 12) 70,tNext L (tStep L (tStep L a 12) 70) 26,0,0,[],[],0,0⟩ : TRequest)),(tStep L (tStep L (tStep L a 12) 70) 26),hex,rfl,rfl,rfl⟩
 have c1_ := c1
 try simp only [sB] at c1
 refine w_seq ?_
 refine w_R ?_
 refine qo hnt rfl (s_eql rfl rfl ?_)
 refine qa hnt rfl rfl ?_
 refine r_end ?_
 refine q_then ?_
 refine w_if rfl (fun c2 => ?_) (fun c2 => ?_)
 ·
  have c2_ := c2
  try simp only [sB] at c2
  refine w_skip ?_
  refine q_then ?_
  refine w_if rfl (fun _ => ?_) (fun e => absurd (e.symm.trans c2_) (by decide))
  have h26 := tNext_lt L (tStep L (tStep L a 12) 70) (n := 26) (by decide)
  refine w_R ?_
  refine qm hnt rfl rfl ?_
  refine qm hnt rfl rfl ?_
  refine qo hnt rfl (s_callX (r2 := pI (tNext L (tStep L (tStep L a 12) 70) 26)) (nx1 := 4) (H2 := [(0,.obj [pS 1 false encI L,pN (tStep L (tStep L a 12) 70)]),(3,.obj [pI e1,pI 0,pI 0,pI 0,pI 0,pNil,pNil,p16 0,p16 0]),(2,oB true 1 encI fnsL),(1,.obj [pI 0,pI 0,pI 0,pI 0,pI 0,pNil,pNil,p16 0,p16 0])]) (H3 := [(0,.obj [pS 1 false encI L,pN (tStep L (tStep L (tStep L a 12) 70) 26)]),(3,.obj [pI e1,pI 0,pI 0,pI 0,pI 0,pNil,pNil,p16 0,p16 0]),(2,oB true 1 encI fnsL),(1,.obj [pI 0,pI 0,pI 0,pI 0,pI 0,pNil,pNil,p16 0,p16 0])]) [0] [.obj [pS 1 false encI L,pN (tStep L (tStep L a 12) 70)]] rfl rfl rfl (handed_of (by decide) ⟨rfl,trivial⟩) rfl rfl rfl rfl rfl rfl (w_burgagekeep_Tape_Next L false (tStep L (tStep L a 12) 70) 26 (by omega) (by omega)) rfl (dist_of rfl) rfl rfl rfl rfl ?_)
  refine qo hnt rfl (s_fa_ptr tab_46 rfl rfl tab_3 (by decide) rfl ?_)
  refine qo hnt rfl (s_store_ptr tab_3 rfl rfl rfl rfl rfl (Nat.le_of_ble_eq_true rfl) ?_)
  refine qo hnt rfl (s_fa_ptr tab_46 rfl rfl tab_3 (by decide) rfl ?_)
  refine qo hnt rfl (s_store_ptr tab_3 rfl rfl rfl rfl rfl (Nat.le_of_ble_eq_true rfl) ?_)
  refine r_set [(2,PV.ptr 1 0),(3,PV.ptr 3 0)] [(3,.obj [pI e1,pI (tNext L (tStep L a 12) 70),pI (tNext L (tStep L (tStep L a 12) 70) 26),pI 0,pI 0,pNil,pNil,p16 0,p16 0]),(0,.obj [pS 1 false encI L,pN (tStep L (tStep L (tStep L a 12) 70) 26)]),(2,oB true 1 encI fnsL),(1,.obj [pI 0,pI 0,pI 0,pI 0,pI 0,pNil,pNil,p16 0,p16 0])] 4 ⟨rfl,rfl,trivial⟩ rfl rfl ?_
  refine r_end ?_
  refine q_block ?_
  refine q_then ?_
  refine w_seq ?_
  refine w_R ?_
  refine qo hnt rfl (s_load_ptr tab_46 rfl rfl rfl (Nat.le_of_ble_eq_true rfl) ?_)
  refine qo hnt rfl (s_store_ptr tab_46 rfl rfl rfl rfl rfl (Nat.le_of_ble_eq_true rfl) ?_)
  refine r_set [(2,PV.ptr 1 0)] [(1,.obj [pI e1,pI (tNext L (tStep L a 12) 70),pI (tNext L (tStep L (tStep L a 12) 70) 26),pI 0,pI 0,pNil,pNil,p16 0,p16 0]),(3,.obj [pI e1,pI (tNext L (tStep L a 12) 70),pI (tNext L (tStep L (tStep L a 12) 70) 26),pI 0,pI 0,pNil,pNil,p16 0,p16 0]),(0,.obj [pS 1 false encI L,pN (tStep L (tStep L (tStep L a 12) 70) 26)]),(2,oB true 1 encI fnsL)] 4 ⟨rfl,trivial⟩ rfl rfl ?_
  refine r_end ?_
  refine q_then ?_
  refine w_leO (n := 1) (ds := [pI e1,pI (tNext L (tStep L a 12) 70),pI (tNext L (tStep L (tStep L a 12) 70) 26),pI 0,pI 0,pS 1 false encBo [],pS 1 false enc16 [],p16 0,p16 0]) rfl ⟨le_refl _,le_refl _,le_refl _,le_refl _,le_refl _,le_nilS 1 false,le_nilS 1 false,le_refl _,le_refl _,trivial⟩ ?_
  refine w_ret ?_
  have hex : rightR (⟨e1,tNext L (tStep L a 12) 70,tNext L (tStep L (tStep L a 12) 70) 26,0,0,[],[],0,0⟩ : TRequest) = 0 ∧ (⟨e1,tNext L (tStep L a 12) 70,tNext L (tStep L (tStep L a 12) 70) 26,0,0,[],[],0,0⟩ : TRequest).bits.length ≤ 25 ∧ (⟨e1,tNext L (tStep L a 12) 70,tNext L (tStep L (tStep L a 12) 70) 26,0,0,[],[],0,0⟩ : TRequest).vals.length ≤ 25 ∧ 0 ≤ (⟨e1,tNext L (tStep L a 12) 70,tNext L (tStep L (tStep L a 12) 70) 26,0,0,[],[],0,0⟩ : TRequest).count ∧ (⟨e1,tNext L (tStep L a 12) 70,tNext L (tStep L (tStep L a 12) 70) 26,0,0,[],[],0,0⟩ : TRequest).count ≤ 25 := by
    refine ⟨(shapeR_iff (q := _) hfn).2 ?_,by simp; try omega,by simp; try omega,by simp; try omega,by simp; try omega⟩
    constructor
    case bits => simp only; (rw [if_neg (by omega),if_neg (by omega)]; rfl)
    case vals => simp only; (rw [if_neg (by omega),if_neg (by omega),if_neg (by omega)]; rfl)
    all_goals first|(intro _; rfl)|(intro _; exact ⟨rfl,rfl⟩)|(simp only; omega)
  exact fin_names (nx1 := 1) (H1 := [(0,.obj [pS 1 false encI L,pN (tStep L (tStep L (tStep L a 12) 70) 26)])]) [(0,0)] (ret_cell tab_46 (by decide) rfl rfl (Nat.le_of_ble_eq_true rfl) rfl ret_nil) rfl (by decide) ⟨⟨_,_,rfl,rfl,rfl,rfl⟩,trivial⟩ (by decide) rfl ⟨((⟨e1,tNext L (tStep L a 12) 70,tNext L (tStep L (tStep L a 12) 70) 26,0,0,[],[],0,0⟩ : TRequest)),(tStep L (tStep L (tStep L a 12) 70) 26),hex,rfl,rfl,rfl⟩
 have c2_ := c2
 try simp only [sB] at c2
 refine w_seq ?_
 refine w_R ?_
 refine qo hnt rfl (s_eql rfl rfl ?_)
 refine qa hnt rfl rfl ?_
 refine r_end ?_
 refine q_then ?_
 refine w_if rfl (fun c3 => ?_) (fun c3 => ?_)
 ·
  have c3_ := c3
  try simp only [sB] at c3
  refine w_skip ?_
  refine q_then ?_
  refine w_if rfl (fun _ => ?_) (fun e => absurd (e.symm.trans c3_) (by decide))
  have h26 := tNext_lt L (tStep L (tStep L a 12) 70) (n := 26) (by decide)
  refine w_R ?_
  refine qm hnt rfl rfl ?_
  refine qm hnt rfl rfl ?_
  refine qo hnt rfl (s_callX (r2 := pI (tNext L (tStep L (tStep L a 12) 70) 26)) (nx1 := 4) (H2 := [(0,.obj [pS 1 false encI L,pN (tStep L (tStep L a 12) 70)]),(3,.obj [pI e1,pI 0,pI 0,pI 0,pI 0,pNil,pNil,p16 0,p16 0]),(2,oB true 1 encI fnsL),(1,.obj [pI 0,pI 0,pI 0,pI 0,pI 0,pNil,pNil,p16 0,p16 0])]) (H3 := [(0,.obj [pS 1 false encI L,pN (tStep L (tStep L (tStep L a 12) 70) 26)]),(3,.obj [pI e1,pI 0,pI 0,pI 0,pI 0,pNil,pNil,p16 0,p16 0]),(2,oB true 1 encI fnsL),(1,.obj [pI 0,pI 0,pI 0,pI 0,pI 0,pNil,pNil,p16 0,p16 0])]) [0] [.obj [pS 1 false encI L,pN (tStep L (tStep L a 12) 70)]] rfl rfl rfl (handed_of (by decide) ⟨rfl,trivial⟩) rfl rfl rfl rfl rfl rfl (w_burgagekeep_Tape_Next L false (tStep L (tStep L a 12) 70) 26 (by omega) (by omega)) rfl (dist_of rfl) rfl rfl rfl rfl ?_)
  refine qo hnt rfl (s_fa_ptr tab_46 rfl rfl tab_3 (by decide) rfl ?_)
  refine qo hnt rfl (s_store_ptr tab_3 rfl rfl rfl rfl rfl (Nat.le_of_ble_eq_true rfl) ?_)
  refine qo hnt rfl (s_fa_ptr tab_46 rfl rfl tab_3 (by decide) rfl ?_)
  refine qo hnt rfl (s_store_ptr tab_3 rfl rfl rfl rfl rfl (Nat.le_of_ble_eq_true rfl) ?_)
  refine r_set [(2,PV.ptr 1 0),(3,PV.ptr 3 0)] [(3,.obj [pI e1,pI (tNext L (tStep L a 12) 70),pI (tNext L (tStep L (tStep L a 12) 70) 26),pI 0,pI 0,pNil,pNil,p16 0,p16 0]),(0,.obj [pS 1 false encI L,pN (tStep L (tStep L (tStep L a 12) 70) 26)]),(2,oB true 1 encI fnsL),(1,.obj [pI 0,pI 0,pI 0,pI 0,pI 0,pNil,pNil,p16 0,p16 0])] 4 ⟨rfl,rfl,trivial⟩ rfl rfl ?_
  refine r_end ?_
  refine q_block ?_
  refine q_then ?_
  refine w_seq ?_
  refine w_R ?_
  refine qo hnt rfl (s_load_ptr tab_46 rfl rfl rfl (Nat.le_of_ble_eq_true rfl) ?_)
  refine qo hnt rfl (s_store_ptr tab_46 rfl rfl rfl rfl rfl (Nat.le_of_ble_eq_true rfl) ?_)
  refine r_set [(2,PV.ptr 1 0)] [(1,.obj [pI e1,pI (tNext L (tStep L a 12) 70),pI (tNext L (tStep L (tStep L a 12) 70) 26),pI 0,pI 0,pNil,pNil,p16 0,p16 0]),(3,.obj [pI e1,pI (tNext L (tStep L a 12) 70),pI (tNext L (tStep L (tStep L a 12) 70) 26),pI 0,pI 0,pNil,pNil,p16 0,p16 0]),(0,.obj [pS 1 false encI L,pN (tStep L (tStep L (tStep L a 12) 70) 26)]),(2,oB true 1 encI fnsL)] 4 ⟨rfl,trivial⟩ rfl rfl ?_
  refine r_end ?_
  refine q_then ?_
  refine w_leO (n := 1) (ds := [pI e1,pI (tNext L (tStep L a 12) 70),pI (tNext L (tStep L (tStep L a 12) 70) 26),pI 0,pI 0,pS 1 false encBo [],pS 1 false enc16 [],p16 0,p16 0]) rfl ⟨le_refl _,le_refl _,le_refl _,le_refl _,le_refl _,le_nilS 1 false,le_nilS 1 false,le_refl _,le_refl _,trivial⟩ ?_
  refine w_ret ?_
  have hex : rightR (⟨e1,tNext L (tStep L a 12) 70,tNext L (tStep L (tStep L a 12) 70) 26,0,0,[],[],0,0⟩ : TRequest) = 0 ∧ (⟨e1,tNext L (tStep L a 12) 70,tNext L (tStep L (tStep L a 12) 70) 26,0,0,[],[],0,0⟩ : TRequest).bits.length ≤ 25 ∧ (⟨e1,tNext L (tStep L a 12) 70,tNext L (tStep L (tStep L a 12) 70) 26,0,0,[],[],0,0⟩ : TRequest).vals.length ≤ 25 ∧ 0 ≤ (⟨e1,tNext L (tStep L a 12) 70,tNext L (tStep L (tStep L a 12) 70) 26,0,0,[],[],0,0⟩ : TRequest).count ∧ (⟨e1,tNext L (tStep L a 12) 70,tNext L (tStep L (tStep L a 12) 70) 26,0,0,[],[],0,0⟩ : TRequest).count ≤ 25 := by
    refine ⟨(shapeR_iff (q := _) hfn).2 ?_,by simp; try omega,by simp; try omega,by simp; try omega,by simp; try omega⟩
    constructor
    case bits => simp only; (rw [if_neg (by omega),if_neg (by omega)]; rfl)
    case vals => simp only; (rw [if_neg (by omega),if_neg (by omega),if_neg (by omega)]; rfl)
    all_goals first|(intro _; rfl)|(intro _; exact ⟨rfl,rfl⟩)|(simp only; omega)
  exact fin_names (nx1 := 1) (H1 := [(0,.obj [pS 1 false encI L,pN (tStep L (tStep L (tStep L a 12) 70) 26)])]) [(0,0)] (ret_cell tab_46 (by decide) rfl rfl (Nat.le_of_ble_eq_true rfl) rfl ret_nil) rfl (by decide) ⟨⟨_,_,rfl,rfl,rfl,rfl⟩,trivial⟩ (by decide) rfl ⟨((⟨e1,tNext L (tStep L a 12) 70,tNext L (tStep L (tStep L a 12) 70) 26,0,0,[],[],0,0⟩ : TRequest)),(tStep L (tStep L (tStep L a 12) 70) 26),hex,rfl,rfl,rfl⟩
 have c3_ := c3
 try simp only [sB] at c3
 refine w_R ?_
 refine qo hnt rfl (s_eql rfl rfl ?_)
 refine qa hnt rfl rfl ?_
 refine r_end ?_
 refine q_then ?_
 refine w_if rfl (fun c4 => ?_) (fun c4 => ?_)
 ·
  have c4_ := c4
  try simp only [sB] at c4
  have h26 := tNext_lt L (tStep L (tStep L a 12) 70) (n := 26) (by decide)
  refine w_R ?_
  refine qm hnt rfl rfl ?_
  refine qm hnt rfl rfl ?_
  refine qo hnt rfl (s_callX (r2 := pI (tNext L (tStep L (tStep L a 12) 70) 26)) (nx1 := 4) (H2 := [(0,.obj [pS 1 false encI L,pN (tStep L (tStep L a 12) 70)]),(3,.obj [pI e1,pI 0,pI 0,pI 0,pI 0,pNil,pNil,p16 0,p16 0]),(2,oB true 1 encI fnsL),(1,.obj [pI 0,pI 0,pI 0,pI 0,pI 0,pNil,pNil,p16 0,p16 0])]) (H3 := [(0,.obj [pS 1 false encI L,pN (tStep L (tStep L (tStep L a 12) 70) 26)]),(3,.obj [pI e1,pI 0,pI 0,pI 0,pI 0,pNil,pNil,p16 0,p16 0]),(2,oB true 1 encI fnsL),(1,.obj [pI 0,pI 0,pI 0,pI 0,pI 0,pNil,pNil,p16 0,p16 0])]) [0] [.obj [pS 1 false encI L,pN (tStep L (tStep L a 12) 70)]] rfl rfl rfl (handed_of (by decide) ⟨rfl,trivial⟩) rfl rfl rfl rfl rfl rfl (w_burgagekeep_Tape_Next L false (tStep L (tStep L a 12) 70) 26 (by omega) (by omega)) rfl (dist_of rfl) rfl rfl rfl rfl ?_)
  refine qo hnt rfl (s_fa_ptr tab_46 rfl rfl tab_3 (by decide) rfl ?_)
  refine qo hnt rfl (s_store_ptr tab_3 rfl rfl rfl rfl rfl (Nat.le_of_ble_eq_true rfl) ?_)
  refine qo hnt rfl (s_fa_ptr tab_46 rfl rfl tab_3 (by decide) rfl ?_)
  refine qo hnt rfl (s_store_ptr tab_3 rfl rfl rfl rfl rfl (Nat.le_of_ble_eq_true rfl) ?_)
  refine r_set [(2,PV.ptr 1 0),(3,PV.ptr 3 0)] [(3,.obj [pI e1,pI (tNext L (tStep L a 12) 70),pI (tNext L (tStep L (tStep L a 12) 70) 26),pI 0,pI 0,pNil,pNil,p16 0,p16 0]),(0,.obj [pS 1 false encI L,pN (tStep L (tStep L (tStep L a 12) 70) 26)]),(2,oB true 1 encI fnsL),(1,.obj [pI 0,pI 0,pI 0,pI 0,pI 0,pNil,pNil,p16 0,p16 0])] 4 ⟨rfl,rfl,trivial⟩ rfl rfl ?_
  refine r_end ?_
  refine q_block ?_
  refine q_then ?_
  refine w_seq ?_
  refine w_R ?_
  refine qo hnt rfl (s_load_ptr tab_46 rfl rfl rfl (Nat.le_of_ble_eq_true rfl) ?_)
  refine qo hnt rfl (s_store_ptr tab_46 rfl rfl rfl rfl rfl (Nat.le_of_ble_eq_true rfl) ?_)
  refine r_set [(2,PV.ptr 1 0)] [(1,.obj [pI e1,pI (tNext L (tStep L a 12) 70),pI (tNext L (tStep L (tStep L a 12) 70) 26),pI 0,pI 0,pNil,pNil,p16 0,p16 0]),(3,.obj [pI e1,pI (tNext L (tStep L a 12) 70),pI (tNext L (tStep L (tStep L a 12) 70) 26),pI 0,pI 0,pNil,pNil,p16 0,p16 0]),(0,.obj [pS 1 false encI L,pN (tStep L (tStep L (tStep L a 12) 70) 26)]),(2,oB true 1 encI fnsL)] 4 ⟨rfl,trivial⟩ rfl rfl ?_
  refine r_end ?_
  refine q_then ?_
  refine w_leO (n := 1) (ds := [pI e1,pI (tNext L (tStep L a 12) 70),pI (tNext L (tStep L (tStep L a 12) 70) 26),pI 0,pI 0,pS 1 false encBo [],pS 1 false enc16 [],p16 0,p16 0]) rfl ⟨le_refl _,le_refl _,le_refl _,le_refl _,le_refl _,le_nilS 1 false,le_nilS 1 false,le_refl _,le_refl _,trivial⟩ ?_
  refine w_ret ?_
  have hex : rightR (⟨e1,tNext L (tStep L a 12) 70,tNext L (tStep L (tStep L a 12) 70) 26,0,0,[],[],0,0⟩ : TRequest) = 0 ∧ (⟨e1,tNext L (tStep L a 12) 70,tNext L (tStep L (tStep L a 12) 70) 26,0,0,[],[],0,0⟩ : TRequest).bits.length ≤ 25 ∧ (⟨e1,tNext L (tStep L a 12) 70,tNext L (tStep L (tStep L a 12) 70) 26,0,0,[],[],0,0⟩ : TRequest).vals.length ≤ 25 ∧ 0 ≤ (⟨e1,tNext L (tStep L a 12) 70,tNext L (tStep L (tStep L a 12) 70) 26,0,0,[],[],0,0⟩ : TRequest).count ∧ (⟨e1,tNext L (tStep L a 12) 70,tNext L (tStep L (tStep L a 12) 70) 26,0,0,[],[],0,0⟩ : TRequest).count ≤ 25 := by
    refine ⟨(shapeR_iff (q := _) hfn).2 ?_,by simp; try omega,by simp; try omega,by simp; try omega,by simp; try omega⟩
    constructor
    case bits => simp only; (rw [if_neg (by omega),if_neg (by omega)]; rfl)
    case vals => simp only; (rw [if_neg (by omega),if_neg (by omega),if_neg (by omega)]; rfl)
    all_goals first|(intro _; rfl)|(intro _; exact ⟨rfl,rfl⟩)|(simp only; omega)
  exact fin_names (nx1 := 1) (H1 := [(0,.obj [pS 1 false encI L,pN (tStep L (tStep L (tStep L a 12) 70) 26)])]) [(0,0)] (ret_cell tab_46 (by decide) rfl rfl (Nat.le_of_ble_eq_true rfl) rfl ret_nil) rfl (by decide) ⟨⟨_,_,rfl,rfl,rfl,rfl⟩,trivial⟩ (by decide) rfl ⟨((⟨e1,tNext L (tStep L a 12) 70,tNext L (tStep L (tStep L a 12) 70) 26,0,0,[],[],0,0⟩ : TRequest)),(tStep L (tStep L (tStep L a 12) 70) 26),hex,rfl,rfl,rfl⟩
 have c4_ := c4
 try simp only [sB] at c4
 refine w_seq ?_
 refine w_R ?_
 refine qo hnt rfl (s_eql rfl rfl ?_)
 refine qa hnt rfl rfl ?_
 refine r_end ?_
 refine q_then ?_
 refine w_if rfl (fun c5 => ?_) (fun c5 => ?_)
 ·
  have c5_ := c5
  try simp only [sB] at c5
  refine w_R ?_
  refine qm hnt rfl rfl ?_
  refine qm hnt rfl rfl ?_
  refine qo hnt rfl (s_callX (r2 := pI (tNext L (tStep L (tStep L a 12) 70) 2)) (nx1 := 4) (H2 := [(0,.obj [pS 1 false encI L,pN (tStep L (tStep L a 12) 70)]),(3,.obj [pI e1,pI 0,pI 0,pI 0,pI 0,pNil,pNil,p16 0,p16 0]),(2,oB true 1 encI fnsL),(1,.obj [pI 0,pI 0,pI 0,pI 0,pI 0,pNil,pNil,p16 0,p16 0])]) (H3 := [(0,.obj [pS 1 false encI L,pN (tStep L (tStep L (tStep L a 12) 70) 2)]),(3,.obj [pI e1,pI 0,pI 0,pI 0,pI 0,pNil,pNil,p16 0,p16 0]),(2,oB true 1 encI fnsL),(1,.obj [pI 0,pI 0,pI 0,pI 0,pI 0,pNil,pNil,p16 0,p16 0])]) [0] [.obj [pS 1 false encI L,pN (tStep L (tStep L a 12) 70)]] rfl rfl rfl (handed_of (by decide) ⟨rfl,trivial⟩) rfl rfl rfl rfl rfl rfl (w_burgagekeep_Tape_Next L false (tStep L (tStep L a 12) 70) 2 (by omega) (by omega)) rfl (dist_of rfl) rfl rfl rfl rfl ?_)
  refine qo hnt rfl (s_eql rfl rfl ?_)
  refine qo hnt rfl (s_mkM (f := encBo) [decide (tNext L (tStep L (tStep L a 12) 70) 2 = 1)] tab_42 rfl tab_4 ⟨rfl,by decide⟩ (by decide) rfl rfl rfl rfl ?_)
  refine qo hnt rfl (s_fa_ptr tab_46 rfl rfl tab_3 (by decide) rfl ?_)
  refine qo hnt rfl (s_store_ptr tab_3 rfl rfl rfl rfl rfl (Nat.le_of_ble_eq_true rfl) ?_)
  refine qo hnt rfl (s_fa_ptr tab_46 rfl rfl tab_42 (by decide) rfl ?_)
  refine qo hnt rfl (s_store_ptr tab_42 rfl rfl rfl rfl rfl (Nat.le_of_ble_eq_true rfl) ?_)
  refine r_set [(2,PV.ptr 1 0),(3,PV.ptr 3 0)] [(3,.obj [pI e1,pI (tNext L (tStep L a 12) 70),pI 0,pI 0,pI 0,PV.ref 4 0 none,pNil,p16 0,p16 0]),(4,oB true 1 encBo [decide (tNext L (tStep L (tStep L a 12) 70) 2 = 1)]),(0,.obj [pS 1 false encI L,pN (tStep L (tStep L (tStep L a 12) 70) 2)]),(2,oB true 1 encI fnsL),(1,.obj [pI 0,pI 0,pI 0,pI 0,pI 0,pNil,pNil,p16 0,p16 0])] 5 ⟨rfl,rfl,trivial⟩ rfl rfl ?_
  refine r_end ?_
  refine q_block ?_
  refine q_then ?_
  refine w_seq ?_
  refine w_R ?_
  refine qo hnt rfl (s_load_ptr tab_46 rfl rfl rfl (Nat.le_of_ble_eq_true rfl) ?_)
  refine qo hnt rfl (s_store_ptr tab_46 rfl rfl rfl rfl rfl (Nat.le_of_ble_eq_true rfl) ?_)
  refine r_set [(2,PV.ptr 1 0)] [(1,.obj [pI e1,pI (tNext L (tStep L a 12) 70),pI 0,pI 0,pI 0,PV.ref 4 0 none,pNil,p16 0,p16 0]),(3,.obj [pI e1,pI (tNext L (tStep L a 12) 70),pI 0,pI 0,pI 0,PV.ref 4 0 none,pNil,p16 0,p16 0]),(4,oB true 1 encBo [decide (tNext L (tStep L (tStep L a 12) 70) 2 = 1)]),(0,.obj [pS 1 false encI L,pN (tStep L (tStep L (tStep L a 12) 70) 2)]),(2,oB true 1 encI fnsL)] 5 ⟨rfl,trivial⟩ rfl rfl ?_
  refine r_end ?_
  refine q_then ?_
  refine w_frzC (n := 1) (j := 5) rfl rfl rfl rfl ?_
  refine w_leO (n := 1) (ds := [pI e1,pI (tNext L (tStep L a 12) 70),pI 0,pI 0,pI 0,pS 1 false encBo [decide (tNext L (tStep L (tStep L a 12) 70) 2 = 1)],pS 1 false enc16 [],p16 0,p16 0]) rfl ⟨le_refl _,le_refl _,le_refl _,le_refl _,le_refl _,le_refl _,le_nilS 1 false,le_refl _,le_refl _,trivial⟩ ?_
  refine w_ret ?_
  have hex : rightR (⟨e1,tNext L (tStep L a 12) 70,0,0,0,[decide (tNext L (tStep L (tStep L a 12) 70) 2 = 1)],[],0,0⟩ : TRequest) = 0 ∧ (⟨e1,tNext L (tStep L a 12) 70,0,0,0,[decide (tNext L (tStep L (tStep L a 12) 70) 2 = 1)],[],0,0⟩ : TRequest).bits.length ≤ 25 ∧ (⟨e1,tNext L (tStep L a 12) 70,0,0,0,[decide (tNext L (tStep L (tStep L a 12) 70) 2 = 1)],[],0,0⟩ : TRequest).vals.length ≤ 25 ∧ 0 ≤ (⟨e1,tNext L (tStep L a 12) 70,0,0,0,[decide (tNext L (tStep L (tStep L a 12) 70) 2 = 1)],[],0,0⟩ : TRequest).count ∧ (⟨e1,tNext L (tStep L a 12) 70,0,0,0,[decide (tNext L (tStep L (tStep L a 12) 70) 2 = 1)],[],0,0⟩ : TRequest).count ≤ 25 := by
    refine ⟨(shapeR_iff (q := _) hfn).2 ?_,by simp; try omega,by simp; try omega,by simp; try omega,by simp; try omega⟩
    constructor
    case bits => simp only; (rw [if_pos (by omega)]; rfl)
    case vals => simp only; (rw [if_neg (by omega),if_neg (by omega),if_neg (by omega)]; rfl)
    all_goals first|(intro _; rfl)|(intro _; exact ⟨rfl,rfl⟩)|(simp only; omega)
  exact fin_names (nx1 := 1) (H1 := [(0,.obj [pS 1 false encI L,pN (tStep L (tStep L (tStep L a 12) 70) 2)])]) [(0,0)] (ret_cell tab_46 (by decide) rfl rfl (Nat.le_of_ble_eq_true rfl) rfl ret_nil) rfl (by decide) ⟨⟨_,_,rfl,rfl,rfl,rfl⟩,trivial⟩ (by decide) rfl ⟨((⟨e1,tNext L (tStep L a 12) 70,0,0,0,[decide (tNext L (tStep L (tStep L a 12) 70) 2 = 1)],[],0,0⟩ : TRequest)),(tStep L (tStep L (tStep L a 12) 70) 2),hex,rfl,rfl,rfl⟩
 have c5_ := c5
 try simp only [sB] at c5
 refine w_seq ?_
 refine w_R ?_
 refine qo hnt rfl (s_eql rfl rfl ?_)
 refine qa hnt rfl rfl ?_
 refine r_end ?_
 refine q_then ?_
 refine w_if rfl (fun c6 => ?_) (fun c6 => ?_)
 ·
  have c6_ := c6
  try simp only [sB] at c6
  refine w_R ?_
  refine qm hnt rfl rfl ?_
  refine qm hnt rfl rfl ?_
  refine qo hnt rfl (s_callX (r2 := pI (tNext L (tStep L (tStep L a 12) 70) 65536)) (nx1 := 4) (H2 := [(0,.obj [pS 1 false encI L,pN (tStep L (tStep L a 12) 70)]),(3,.obj [pI e1,pI 0,pI 0,pI 0,pI 0,pNil,pNil,p16 0,p16 0]),(2,oB true 1 encI fnsL),(1,.obj [pI 0,pI 0,pI 0,pI 0,pI 0,pNil,pNil,p16 0,p16 0])]) (H3 := [(0,.obj [pS 1 false encI L,pN (tStep L (tStep L (tStep L a 12) 70) 65536)]),(3,.obj [pI e1,pI 0,pI 0,pI 0,pI 0,pNil,pNil,p16 0,p16 0]),(2,oB true 1 encI fnsL),(1,.obj [pI 0,pI 0,pI 0,pI 0,pI 0,pNil,pNil,p16 0,p16 0])]) [0] [.obj [pS 1 false encI L,pN (tStep L (tStep L a 12) 70)]] rfl rfl rfl (handed_of (by decide) ⟨rfl,trivial⟩) rfl rfl rfl rfl rfl rfl (w_burgagekeep_Tape_Next L false (tStep L (tStep L a 12) 70) 65536 (by omega) (by omega)) rfl (dist_of rfl) rfl rfl rfl rfl ?_)
  refine qo hnt rfl (s_cv16 tab_3 tab_44 rfl rfl rfl ?_)
  refine qo hnt rfl (s_mkM (f := enc16) [u16I (tNext L (tStep L (tStep L a 12) 70) 65536)] tab_43 rfl tab_44 ⟨rfl,by decide⟩ (by decide) rfl rfl rfl rfl ?_)
  refine qo hnt rfl (s_fa_ptr tab_46 rfl rfl tab_3 (by decide) rfl ?_)
  refine qo hnt rfl (s_store_ptr tab_3 rfl rfl rfl rfl rfl (Nat.le_of_ble_eq_true rfl) ?_)
  refine qo hnt rfl (s_fa_ptr tab_46 rfl rfl tab_43 (by decide) rfl ?_)
  refine qo hnt rfl (s_store_ptr tab_43 rfl rfl rfl rfl rfl (Nat.le_of_ble_eq_true rfl) ?_)
  refine r_set [(2,PV.ptr 1 0),(3,PV.ptr 3 0)] [(3,.obj [pI e1,pI (tNext L (tStep L a 12) 70),pI 0,pI 0,pI 0,pNil,PV.ref 4 0 none,p16 0,p16 0]),(4,oB true 1 enc16 [u16I (tNext L (tStep L (tStep L a 12) 70) 65536)]),(0,.obj [pS 1 false encI L,pN (tStep L (tStep L (tStep L a 12) 70) 65536)]),(2,oB true 1 encI fnsL),(1,.obj [pI 0,pI 0,pI 0,pI 0,pI 0,pNil,pNil,p16 0,p16 0])] 5 ⟨rfl,rfl,trivial⟩ rfl rfl ?_
  refine r_end ?_
  refine q_block ?_
  refine q_then ?_
  refine w_seq ?_
  refine w_R ?_
  refine qo hnt rfl (s_load_ptr tab_46 rfl rfl rfl (Nat.le_of_ble_eq_true rfl) ?_)
  refine qo hnt rfl (s_store_ptr tab_46 rfl rfl rfl rfl rfl (Nat.le_of_ble_eq_true rfl) ?_)
  refine r_set [(2,PV.ptr 1 0)] [(1,.obj [pI e1,pI (tNext L (tStep L a 12) 70),pI 0,pI 0,pI 0,pNil,PV.ref 4 0 none,p16 0,p16 0]),(3,.obj [pI e1,pI (tNext L (tStep L a 12) 70),pI 0,pI 0,pI 0,pNil,PV.ref 4 0 none,p16 0,p16 0]),(4,oB true 1 enc16 [u16I (tNext L (tStep L (tStep L a 12) 70) 65536)]),(0,.obj [pS 1 false encI L,pN (tStep L (tStep L (tStep L a 12) 70) 65536)]),(2,oB true 1 encI fnsL)] 5 ⟨rfl,trivial⟩ rfl rfl ?_
  refine r_end ?_
  refine q_then ?_
  refine w_frzC (n := 1) (j := 6) rfl rfl rfl rfl ?_
  refine w_leO (n := 1) (ds := [pI e1,pI (tNext L (tStep L a 12) 70),pI 0,pI 0,pI 0,pS 1 false encBo [],pS 1 false enc16 [u16I (tNext L (tStep L (tStep L a 12) 70) 65536)],p16 0,p16 0]) rfl ⟨le_refl _,le_refl _,le_refl _,le_refl _,le_refl _,le_nilS 1 false,le_refl _,le_refl _,le_refl _,trivial⟩ ?_
  refine w_ret ?_
  have hex : rightR (⟨e1,tNext L (tStep L a 12) 70,0,0,0,[],[u16I (tNext L (tStep L (tStep L a 12) 70) 65536)],0,0⟩ : TRequest) = 0 ∧ (⟨e1,tNext L (tStep L a 12) 70,0,0,0,[],[u16I (tNext L (tStep L (tStep L a 12) 70) 65536)],0,0⟩ : TRequest).bits.length ≤ 25 ∧ (⟨e1,tNext L (tStep L a 12) 70,0,0,0,[],[u16I (tNext L (tStep L (tStep L a 12) 70) 65536)],0,0⟩ : TRequest).vals.length ≤ 25 ∧ 0 ≤ (⟨e1,tNext L (tStep L a 12) 70,0,0,0,[],[u16I (tNext L (tStep L (tStep L a 12) 70) 65536)],0,0⟩ : TRequest).count ∧ (⟨e1,tNext L (tStep L a 12) 70,0,0,0,[],[u16I (tNext L (tStep L (tStep L a 12) 70) 65536)],0,0⟩ : TRequest).count ≤ 25 := by
    refine ⟨(shapeR_iff (q := _) hfn).2 ?_,by simp; try omega,by simp; try omega,by simp; try omega,by simp; try omega⟩
    constructor
    case bits => simp only; (rw [if_neg (by omega),if_neg (by omega)]; rfl)
    case vals => simp only; (rw [if_pos (by omega)]; rfl)
    all_goals first|(intro _; rfl)|(intro _; exact ⟨rfl,rfl⟩)|(simp only; omega)
  exact fin_names (nx1 := 1) (H1 := [(0,.obj [pS 1 false encI L,pN (tStep L (tStep L (tStep L a 12) 70) 65536)])]) [(0,0)] (ret_cell tab_46 (by decide) rfl rfl (Nat.le_of_ble_eq_true rfl) rfl ret_nil) rfl (by decide) ⟨⟨_,_,rfl,rfl,rfl,rfl⟩,trivial⟩ (by decide) rfl ⟨((⟨e1,tNext L (tStep L a 12) 70,0,0,0,[],[u16I (tNext L (tStep L (tStep L a 12) 70) 65536)],0,0⟩ : TRequest)),(tStep L (tStep L (tStep L a 12) 70) 65536),hex,rfl,rfl,rfl⟩
 have c6_ := c6
 try simp only [sB] at c6
 refine w_seq ?_
 refine w_R ?_
 refine qo hnt rfl (s_eql rfl rfl ?_)
 refine qa hnt rfl rfl ?_
 refine r_end ?_
 refine q_then ?_
 refine w_if rfl (fun c7 => ?_) (fun c7 => ?_)
 ·
  have c7_ := c7
  try simp only [sB] at c7
  have h8 := tNext_lt L (tStep L (tStep L a 12) 70) (n := 8) (by decide)
  have h4 := tNext_lt L (tStep L (tStep L (tStep L a 12) 70) 8) (n := 4) (by decide)
  refine W_drawn tabOk mixed hnt [[],[],[1],[0,1,2],[0,1,2,3],[],[],[1,2,6],[1,2,5,6,7],[1,2,5,6,7,8],[1,2,5,6,7,8,9],[0,1,2,3,4],[0,1,2,3,4,6,7,11],[0,1,2,3,4,5,6,7,8,9,10,11,12],[0,1,2,3,4,5,6,7,8,9,10,11,12,13]] (by kernel_rfl) ?_
  refine d_op ?_
  refine xT [] [] [] [(4,oB true 1 encI ([0,10,11,12,13,14,2,300] : List Int))] [(0,.obj [pS 1 false encI L,pN (tStep L (tStep L a 12) 70)]),(3,.obj [pI e1,pI 0,pI 0,pI 0,pI 0,pNil,pNil,p16 0,p16 0]),(2,oB true 1 encI fnsL),(1,.obj [pI 0,pI 0,pI 0,pI 0,pI 0,pNil,pNil,p16 0,p16 0])] rfl rfl rfl rfl rfl (s_mkM (f := encI) ([0,10,11,12,13,14,2,300] : List Int) tab_24 rfl tab_3 ⟨rfl,by decide⟩ (by decide) rfl rfl rfl rfl ⟨rfl,rfl,rfl⟩) rfl rfl ?_
  refine d_op ?_
  refine x_run0 [(0,PV.ptr 0 0)] [] rfl rfl rfl rfl (s_move rfl ⟨rfl,rfl,rfl⟩) ?_
  refine d_op ?_
  refine xT [(49,PV.ptr 0 0)] [1] [(0,.obj [pS 1 false encI L,pN (tStep L (tStep L a 12) 70)])] [(0,.obj [pS 1 false encI L,pN (tStep L (tStep L (tStep L a 12) 70) 8)])] [(4,oB true 1 encI ([0,10,11,12,13,14,2,300] : List Int)),(3,.obj [pI e1,pI 0,pI 0,pI 0,pI 0,pNil,pNil,p16 0,p16 0]),(2,oB true 1 encI fnsL),(1,.obj [pI 0,pI 0,pI 0,pI 0,pI 0,pNil,pNil,p16 0,p16 0])] rfl rfl rfl rfl rfl (s_callX (r2 := pI (tNext L (tStep L (tStep L a 12) 70) 8)) (nx1 := 5) (H2 := [(0,.obj [pS 1 false encI L,pN (tStep L (tStep L a 12) 70)])]) (H3 := [(0,.obj [pS 1 false encI L,pN (tStep L (tStep L (tStep L a 12) 70) 8)])]) [0] [.obj [pS 1 false encI L,pN (tStep L (tStep L a 12) 70)]] rfl rfl rfl (handed_of (by decide) ⟨rfl,trivial⟩) rfl rfl rfl rfl rfl rfl (w_burgagekeep_Tape_Next L false (tStep L (tStep L a 12) 70) 8 (by omega) (by omega)) rfl (dist_of rfl) rfl rfl rfl rfl ⟨rfl,rfl,rfl⟩) rfl rfl ?_
  refine d_op ?_
  refine xL [(48,PV.ref 4 0 none),(50,pI (tNext L (tStep L (tStep L a 12) 70) 8))] [0,1,2] [(4,oB true 1 encI ([0,10,11,12,13,14,2,300] : List Int))] rfl rfl rfl rfl rfl (s_iaR0 (q := Int.toNat (tNext L (tStep L (tStep L a 12) 70) 8)) (f := encI) (l := ([0,10,11,12,13,14,2,300] : List Int)) tab_24 rfl tab_3 rfl rfl (by omega) rfl rfl (by simp; omega) ⟨rfl,rfl,rfl⟩) ⟨rfl,trivial⟩ rfl ?_
  refine d_op ?_
  obtain ⟨e2,he2⟩ := get_of_lt ([0,10,11,12,13,14,2,300] : List Int) (i := Int.toNat (tNext L (tStep L (tStep L a 12) 70) 8)) (by simp; omega)
  refine xL [(51,PV.ep 4 (Int.toNat (tNext L (tStep L (tStep L a 12) 70) 8)) 0)] [0,1,2,3] [(4,oB true 1 encI ([0,10,11,12,13,14,2,300] : List Int))] rfl rfl rfl rfl rfl (s_ldM (b := e2) (f := encI) tab_3 rfl rfl rfl rfl he2 rfl ⟨rfl,rfl,rfl⟩) ⟨rfl,trivial⟩ rfl ?_
  have hm2 := List.mem_of_getElem? he2
  simp only [List.mem_cons,List.not_mem_nil,or_false] at hm2
  refine d_op ?_
  refine xT [] [] [] [(5,oB true 1 enc16 ([0,0,0,777] : List UInt16))] [(0,.obj [pS 1 false encI L,pN (tStep L (tStep L (tStep L a 12) 70) 8)]),(4,oB true 1 encI ([0,10,11,12,13,14,2,300] : List Int)),(3,.obj [pI e1,pI 0,pI 0,pI 0,pI 0,pNil,pNil,p16 0,p16 0]),(2,oB true 1 encI fnsL),(1,.obj [pI 0,pI 0,pI 0,pI 0,pI 0,pNil,pNil,p16 0,p16 0])] rfl rfl rfl rfl rfl (s_mkM (f := enc16) ([0,0,0,777] : List UInt16) tab_43 rfl tab_44 ⟨rfl,by decide⟩ (by decide) rfl rfl rfl rfl ⟨rfl,rfl,rfl⟩) rfl rfl ?_
  refine d_op ?_
  refine x_run0 [(0,PV.ptr 0 0)] [] rfl rfl rfl rfl (s_move rfl ⟨rfl,rfl,rfl⟩) ?_
  refine d_op ?_
  refine xT [(54,PV.ptr 0 0)] [1,2,6] [(0,.obj [pS 1 false encI L,pN (tStep L (tStep L (tStep L a 12) 70) 8)])] [(0,.obj [pS 1 false encI L,pN (tStep L (tStep L (tStep L (tStep L a 12) 70) 8) 4)])] [(5,oB true 1 enc16 ([0,0,0,777] : List UInt16)),(4,oB true 1 encI ([0,10,11,12,13,14,2,300] : List Int)),(3,.obj [pI e1,pI 0,pI 0,pI 0,pI 0,pNil,pNil,p16 0,p16 0]),(2,oB true 1 encI fnsL),(1,.obj [pI 0,pI 0,pI 0,pI 0,pI 0,pNil,pNil,p16 0,p16 0])] rfl rfl rfl rfl rfl (s_callX (r2 := pI (tNext L (tStep L (tStep L (tStep L a 12) 70) 8) 4)) (nx1 := 6) (H2 := [(0,.obj [pS 1 false encI L,pN (tStep L (tStep L (tStep L a 12) 70) 8)])]) (H3 := [(0,.obj [pS 1 false encI L,pN (tStep L (tStep L (tStep L (tStep L a 12) 70) 8) 4)])]) [0] [.obj [pS 1 false encI L,pN (tStep L (tStep L (tStep L a 12) 70) 8)]] rfl rfl rfl (handed_of (by decide) ⟨rfl,trivial⟩) rfl rfl rfl rfl rfl rfl (w_burgagekeep_Tape_Next L false (tStep L (tStep L (tStep L a 12) 70) 8) 4 (by omega) (by omega)) rfl (dist_of rfl) rfl rfl rfl rfl ⟨rfl,rfl,rfl⟩) rfl rfl ?_
  refine d_op ?_
  refine xL [(53,PV.ref 5 0 none),(55,pI (tNext L (tStep L (tStep L (tStep L a 12) 70) 8) 4))] [1,2,5,6,7] [(5,oB true 1 enc16 ([0,0,0,777] : List UInt16))] rfl rfl rfl rfl rfl (s_iaR0 (q := Int.toNat (tNext L (tStep L (tStep L (tStep L a 12) 70) 8) 4)) (f := enc16) (l := ([0,0,0,777] : List UInt16)) tab_43 rfl tab_44 rfl rfl (by omega) rfl rfl (by simp; omega) ⟨rfl,rfl,rfl⟩) ⟨rfl,trivial⟩ rfl ?_
  refine d_op ?_
  obtain ⟨e3,he3⟩ := get_of_lt ([0,0,0,777] : List UInt16) (i := Int.toNat (tNext L (tStep L (tStep L (tStep L a 12) 70) 8) 4)) (by simp; omega)
  refine xL [(56,PV.ep 5 (Int.toNat (tNext L (tStep L (tStep L (tStep L a 12) 70) 8) 4)) 0)] [1,2,5,6,7,8] [(5,oB true 1 enc16 ([0,0,0,777] : List UInt16))] rfl rfl rfl rfl rfl (s_ldM (b := e3) (f := enc16) tab_44 rfl rfl rfl rfl he3 rfl ⟨rfl,rfl,rfl⟩) ⟨rfl,trivial⟩ rfl ?_
  refine d_op ?_
  refine xT [(57,p16 e3)] [1,2,5,6,7,8,9] [] [(6,oB true 1 enc16 [e3])] [(0,.obj [pS 1 false encI L,pN (tStep L (tStep L (tStep L (tStep L a 12) 70) 8) 4)]),(5,oB true 1 enc16 ([0,0,0,777] : List UInt16)),(4,oB true 1 encI ([0,10,11,12,13,14,2,300] : List Int)),(3,.obj [pI e1,pI 0,pI 0,pI 0,pI 0,pNil,pNil,p16 0,p16 0]),(2,oB true 1 encI fnsL),(1,.obj [pI 0,pI 0,pI 0,pI 0,pI 0,pNil,pNil,p16 0,p16 0])] rfl rfl rfl rfl rfl (s_mkM (f := enc16) [e3] tab_43 rfl tab_44 ⟨rfl,by decide⟩ (by decide) rfl rfl rfl rfl ⟨rfl,rfl,rfl⟩) rfl rfl ?_
  refine d_op ?_
  refine x_run0 [(3,PV.ptr 3 0)] [0,1,2,3,4] rfl rfl rfl rfl (s_fa_ptr tab_46 rfl rfl tab_3 (by decide) rfl ⟨rfl,rfl,rfl⟩) ?_
  refine d_op ?_
  refine xT [(59,PV.ptr 3 4),(52,pI e2)] [0,1,2,3,4,6,7,11] [(3,.obj [pI e1,pI 0,pI 0,pI 0,pI 0,pNil,pNil,p16 0,p16 0])] [(3,.obj [pI e1,pI 0,pI 0,pI 0,pI e2,pNil,pNil,p16 0,p16 0])] [(6,oB true 1 enc16 [e3]),(0,.obj [pS 1 false encI L,pN (tStep L (tStep L (tStep L (tStep L a 12) 70) 8) 4)]),(5,oB true 1 enc16 ([0,0,0,777] : List UInt16)),(4,oB true 1 encI ([0,10,11,12,13,14,2,300] : List Int)),(2,oB true 1 encI fnsL),(1,.obj [pI 0,pI 0,pI 0,pI 0,pI 0,pNil,pNil,p16 0,p16 0])] rfl rfl rfl rfl rfl (s_store_ptr tab_3 rfl rfl rfl rfl rfl (Nat.le_of_ble_eq_true rfl) ⟨rfl,rfl,rfl⟩) rfl rfl ?_
  refine d_op ?_
  refine x_run0 [(3,PV.ptr 3 0)] [0,1,2,3,4,5,6,7,8,9,10,11,12] rfl rfl rfl rfl (s_fa_ptr tab_46 rfl rfl tab_43 (by decide) rfl ⟨rfl,rfl,rfl⟩) ?_
  refine d_op ?_
  refine xT [(60,PV.ptr 3 6),(58,PV.ref 6 0 none)] [0,1,2,3,4,5,6,7,8,9,10,11,12,13] [(3,.obj [pI e1,pI 0,pI 0,pI 0,pI e2,pNil,pNil,p16 0,p16 0])] [(3,.obj [pI e1,pI 0,pI 0,pI 0,pI e2,pNil,PV.ref 6 0 none,p16 0,p16 0])] [(6,oB true 1 enc16 [e3]),(0,.obj [pS 1 false encI L,pN (tStep L (tStep L (tStep L (tStep L a 12) 70) 8) 4)]),(5,oB true 1 enc16 ([0,0,0,777] : List UInt16)),(4,oB true 1 encI ([0,10,11,12,13,14,2,300] : List Int)),(2,oB true 1 encI fnsL),(1,.obj [pI 0,pI 0,pI 0,pI 0,pI 0,pNil,pNil,p16 0,p16 0])] rfl rfl rfl rfl rfl (s_store_ptr tab_43 rfl rfl rfl rfl rfl (Nat.le_of_ble_eq_true rfl) ⟨rfl,rfl,rfl⟩) rfl rfl ?_
  refine d_end ⟨by kernel_rfl, ?_⟩
  refine q_block ?_
  refine q_then ?_
  refine w_seq ?_
  refine w_R ?_
  refine qo hnt rfl (s_load_ptr tab_46 rfl rfl rfl (Nat.le_of_ble_eq_true rfl) ?_)
  refine qo hnt rfl (s_store_ptr tab_46 rfl rfl rfl rfl rfl (Nat.le_of_ble_eq_true rfl) ?_)
  refine r_set [(2,PV.ptr 1 0)] [(1,.obj [pI e1,pI 0,pI 0,pI 0,pI e2,pNil,PV.ref 6 0 none,p16 0,p16 0]),(3,.obj [pI e1,pI 0,pI 0,pI 0,pI e2,pNil,PV.ref 6 0 none,p16 0,p16 0]),(6,oB true 1 enc16 [e3]),(0,.obj [pS 1 false encI L,pN (tStep L (tStep L (tStep L (tStep L a 12) 70) 8) 4)]),(5,oB true 1 enc16 ([0,0,0,777] : List UInt16)),(4,oB true 1 encI ([0,10,11,12,13,14,2,300] : List Int)),(2,oB true 1 encI fnsL)] 7 ⟨rfl,trivial⟩ rfl rfl ?_
  refine r_end ?_
  refine q_then ?_
  refine w_frzC (n := 1) (j := 6) rfl rfl rfl rfl ?_
  refine w_leO (n := 1) (ds := [pI e1,pI 0,pI 0,pI 0,pI e2,pS 1 false encBo [],pS 1 false enc16 [e3],p16 0,p16 0]) rfl ⟨le_refl _,le_refl _,le_refl _,le_refl _,le_refl _,le_nilS 1 false,le_refl _,le_refl _,le_refl _,trivial⟩ ?_
  refine w_ret ?_
  have hex : rightR (⟨e1,0,0,0,e2,[],[e3],0,0⟩ : TRequest) = 0 ∧ (⟨e1,0,0,0,e2,[],[e3],0,0⟩ : TRequest).bits.length ≤ 25 ∧ (⟨e1,0,0,0,e2,[],[e3],0,0⟩ : TRequest).vals.length ≤ 25 ∧ 0 ≤ (⟨e1,0,0,0,e2,[],[e3],0,0⟩ : TRequest).count ∧ (⟨e1,0,0,0,e2,[],[e3],0,0⟩ : TRequest).count ≤ 25 := by
    refine ⟨(shapeR_iff (q := _) hfn).2 ?_,by simp; try omega,by simp; try omega,by simp; try omega,by simp; try omega⟩
    constructor
    case bits => simp only; (rw [if_neg (by omega),if_neg (by omega)]; rfl)
    case vals => simp only; (rw [if_pos (by omega)]; rfl)
    all_goals first|(intro _; rfl)|(intro _; exact ⟨rfl,rfl⟩)|(simp only; omega)
  exact fin_names (nx1 := 1) (H1 := [(0,.obj [pS 1 false encI L,pN (tStep L (tStep L (tStep L (tStep L a 12) 70) 8) 4)])]) [(0,0)] (ret_cell tab_46 (by decide) rfl rfl (Nat.le_of_ble_eq_true rfl) rfl ret_nil) rfl (by decide) ⟨⟨_,_,rfl,rfl,rfl,rfl⟩,trivial⟩ (by decide) rfl ⟨((⟨e1,0,0,0,e2,[],[e3],0,0⟩ : TRequest)),(tStep L (tStep L (tStep L (tStep L a 12) 70) 8) 4),hex,rfl,rfl,rfl⟩
 have c7_ := c7
 try simp only [sB] at c7
 refine w_seq ?_
 refine w_R ?_
 refine qo hnt rfl (s_eql rfl rfl ?_)
 refine qa hnt rfl rfl ?_
 refine r_end ?_
 refine q_then ?_
 refine w_if rfl (fun c8 => ?_) (fun c8 => ?_)
 ·
  have c8_ := c8
  try simp only [sB] at c8
  refine w_seq ?_
  have h26 := tNext_lt L (tStep L (tStep L a 12) 70) (n := 26) (by decide)
  refine w_R ?_
  refine qm hnt rfl rfl ?_
  refine qm hnt rfl rfl ?_
  refine qo hnt rfl (s_callX (r2 := pI (tNext L (tStep L (tStep L a 12) 70) 26)) (nx1 := 4) (H2 := [(0,.obj [pS 1 false encI L,pN (tStep L (tStep L a 12) 70)]),(3,.obj [pI e1,pI 0,pI 0,pI 0,pI 0,pNil,pNil,p16 0,p16 0]),(2,oB true 1 encI fnsL),(1,.obj [pI 0,pI 0,pI 0,pI 0,pI 0,pNil,pNil,p16 0,p16 0])]) (H3 := [(0,.obj [pS 1 false encI L,pN (tStep L (tStep L (tStep L a 12) 70) 26)]),(3,.obj [pI e1,pI 0,pI 0,pI 0,pI 0,pNil,pNil,p16 0,p16 0]),(2,oB true 1 encI fnsL),(1,.obj [pI 0,pI 0,pI 0,pI 0,pI 0,pNil,pNil,p16 0,p16 0])]) [0] [.obj [pS 1 false encI L,pN (tStep L (tStep L a 12) 70)]] rfl rfl rfl (handed_of (by decide) ⟨rfl,trivial⟩) rfl rfl rfl rfl rfl rfl (w_burgagekeep_Tape_Next L false (tStep L (tStep L a 12) 70) 26 (by omega) (by omega)) rfl (dist_of rfl) rfl rfl rfl rfl ?_)
  refine qo hnt rfl (s_fa_ptr tab_46 rfl rfl tab_3 (by decide) rfl ?_)
  refine qo hnt rfl (s_store_ptr tab_3 rfl rfl rfl rfl rfl (Nat.le_of_ble_eq_true rfl) ?_)
  refine qo hnt rfl (s_fa_ptr tab_46 rfl rfl tab_3 (by decide) rfl ?_)
  refine qo hnt rfl (s_store_ptr tab_3 rfl rfl rfl rfl rfl (Nat.le_of_ble_eq_true rfl) ?_)
  refine r_set [(0,PV.ptr 0 0),(2,PV.ptr 1 0),(3,PV.ptr 3 0)] [(3,.obj [pI e1,pI (tNext L (tStep L a 12) 70),pI (tNext L (tStep L (tStep L a 12) 70) 26),pI 0,pI 0,pNil,pNil,p16 0,p16 0]),(0,.obj [pS 1 false encI L,pN (tStep L (tStep L (tStep L a 12) 70) 26)]),(2,oB true 1 encI fnsL),(1,.obj [pI 0,pI 0,pI 0,pI 0,pI 0,pNil,pNil,p16 0,p16 0])] 4 ⟨rfl,rfl,rfl,trivial⟩ rfl rfl ?_
  refine r_end ?_
  refine q_then ?_
  refine w_seq ?_
  refine w_R ?_
  refine qa hnt rfl rfl ?_
  refine r_end ?_
  refine q_then ?_
  refine w_block ?_
  refine w_adoptC (n := 3) (j := 5) (sz := 1) rfl rfl rfl ?_
  refine loop3 (fun (ap : Nat) (os : List Bool) (i : Nat) => (i : Int) ≤ tNext L (tStep L (tStep L a 12) 70) 26 ∧ os.length = i) (fun (ap : Nat) (os : List Bool) (i : Nat) => [(0,PV.ptr 0 0),(2,PV.ptr 3 0),(3,PV.ptr 1 0),(5,pN i)]) 4 (fun (ap : Nat) (os : List Bool) (i : Nat) => [(0,.obj [pS 1 false encI L,pN ap]),(1,.obj [pI e1,pI (tNext L (tStep L a 12) 70),pI (tNext L (tStep L (tStep L a 12) 70) 26),pI 0,pI 0,PV.ref 2 0 none,pNil,p16 0,p16 0]),(2,oB true 1 encBo os),(3,.obj [pI 0,pI 0,pI 0,pI 0,pI 0,pNil,pNil,p16 0,p16 0])]) (fun (ap : Nat) (os : List Bool) (i : Nat) => (tNext L (tStep L (tStep L a 12) 70) 26).toNat - i) (tStep L (tStep L (tStep L a 12) 70) 26) (([] : List Bool)) (0) ?_ ⟨[(0,0),(1,3),(2,4),(3,1)],by rw [hk]; decide,⟨⟨_,rfl,rfl,rfl⟩,⟨_,rfl,rfl,rfl⟩,⟨_,rfl,rfl,rfl⟩,⟨_,rfl,rfl,rfl⟩,trivial⟩,⟨⟨_,_,rfl,rfl,rfl,rfl⟩,⟨_,_,rfl,rfl,rfl,rfl⟩,⟨_,_,rfl,rfl,rfl,rfl⟩,⟨_,_,rfl,rfl,rfl,rfl⟩,trivial⟩,by rw [hk]; decide⟩ ?_
  · exact ⟨by omega,rfl⟩
  ·
   intro ap os i hI
   obtain ⟨hi,hol⟩ := hI
   refine w_seq ?_
   refine w_seq ?_
   refine w_R ?_
   refine qm hnt rfl rfl ?_
   refine qo hnt rfl (s_fa_ptr tab_46 rfl rfl tab_3 (by decide) rfl ?_)
   refine qo hnt rfl (s_load_ptr1 tab_3 rfl rfl rfl rfl rfl ?_)
   refine qo hnt rfl (s_lss rfl rfl ?_)
   refine r_end ?_
   refine q_then ?_
   refine w_if rfl (fun c9 => ?_) (fun c9 => ?_)
   ·
    have c9_ := c9
    try simp only [sB] at c9
    refine w_skip ?_
    refine q_then ?_
    refine w_seq ?_
    refine w_block ?_
    refine W_drawn tabOk mixed hnt [[],[0],[],[2],[2,3],[2,3,4],[0,1,2,3,4,5],[0,1,2,3,4,5,6],[0,1,2,3,4,5,6,7]] (by kernel_rfl) ?_
    refine d_op ?_
    refine x_run0 [(3,PV.ptr 1 0)] [] rfl rfl rfl rfl (s_fa_ptr tab_46 rfl rfl tab_42 (by decide) rfl ⟨rfl,rfl,rfl⟩) ?_
    refine d_op ?_
    refine xL [(74,PV.ptr 1 5)] [0] [(1,.obj [pI e1,pI (tNext L (tStep L a 12) 70),pI (tNext L (tStep L (tStep L a 12) 70) 26),pI 0,pI 0,PV.ref 2 0 none,pNil,p16 0,p16 0])] rfl rfl rfl rfl rfl (s_load_ptr1 tab_42 rfl rfl rfl rfl rfl ⟨rfl,rfl,rfl⟩) ⟨rfl,trivial⟩ rfl ?_
    refine d_op ?_
    refine x_run0 [(0,PV.ptr 0 0)] [] rfl rfl rfl rfl (s_move rfl ⟨rfl,rfl,rfl⟩) ?_
    refine d_op ?_
    refine xT [(76,PV.ptr 0 0)] [2] [(0,.obj [pS 1 false encI L,pN ap])] [(0,.obj [pS 1 false encI L,pN (tStep L ap 2)])] [(1,.obj [pI e1,pI (tNext L (tStep L a 12) 70),pI (tNext L (tStep L (tStep L a 12) 70) 26),pI 0,pI 0,PV.ref 2 0 none,pNil,p16 0,p16 0]),(2,oB true 1 encBo os),(3,.obj [pI 0,pI 0,pI 0,pI 0,pI 0,pNil,pNil,p16 0,p16 0])] rfl rfl rfl rfl rfl (s_callX (r2 := pI (tNext L ap 2)) (nx1 := 4) (H2 := [(0,.obj [pS 1 false encI L,pN ap])]) (H3 := [(0,.obj [pS 1 false encI L,pN (tStep L ap 2)])]) [0] [.obj [pS 1 false encI L,pN ap]] rfl rfl rfl (handed_of (by decide) ⟨rfl,trivial⟩) rfl rfl rfl rfl rfl rfl (w_burgagekeep_Tape_Next L false ap 2 (by omega) (by omega)) rfl (dist_of rfl) rfl rfl rfl rfl ⟨rfl,rfl,rfl⟩) rfl rfl ?_
    refine d_op ?_
    refine x_run0 [(77,pI (tNext L ap 2))] [2,3] rfl rfl rfl rfl (s_eql rfl rfl ⟨rfl,rfl,rfl⟩) ?_
    refine d_op ?_
    refine xT [(78,pB (decide (tNext L ap 2 = 1)))] [2,3,4] [] [(4,oB true 1 encBo [decide (tNext L ap 2 = 1)])] [(0,.obj [pS 1 false encI L,pN (tStep L ap 2)]),(1,.obj [pI e1,pI (tNext L (tStep L a 12) 70),pI (tNext L (tStep L (tStep L a 12) 70) 26),pI 0,pI 0,PV.ref 2 0 none,pNil,p16 0,p16 0]),(2,oB true 1 encBo os),(3,.obj [pI 0,pI 0,pI 0,pI 0,pI 0,pNil,pNil,p16 0,p16 0])] rfl rfl rfl rfl rfl (s_mkM (f := encBo) [decide (tNext L ap 2 = 1)] tab_42 rfl tab_4 ⟨rfl,by decide⟩ (by decide) rfl rfl rfl rfl ⟨rfl,rfl,rfl⟩) rfl rfl ?_
    refine d_op ?_
    refine x_run [(75,PV.ref 2 0 none),(79,PV.ref 4 0 none)] [0,1,2,3,4,5] [(4,oB true 1 encBo [decide (tNext L ap 2 = 1)])] [(2,oB true 1 encBo os)] [(5,oB true 1 encBo (os ++ [decide (tNext L ap 2 = 1)])),(4,oB true 1 encBo [decide (tNext L ap 2 = 1)])] [(5,oB true 1 encBo (os ++ [decide (tNext L ap 2 = 1)]))] [(5,oB true 1 encBo (os ++ [decide (tNext L ap 2 = 1)])),(4,oB true 1 encBo [decide (tNext L ap 2 = 1)]),(0,.obj [pS 1 false encI L,pN (tStep L ap 2)]),(1,.obj [pI e1,pI (tNext L (tStep L a 12) 70),pI (tNext L (tStep L (tStep L a 12) 70) 26),pI 0,pI 0,PV.ref 2 0 none,pNil,p16 0,p16 0]),(3,.obj [pI 0,pI 0,pI 0,pI 0,pI 0,pNil,pNil,p16 0,p16 0])] rfl rfl rfl rfl rfl rfl (s_appR0 (f := encBo) (l := os) (xs := [decide (tNext L ap 2 = 1)]) tab_42 rfl tab_4 ⟨rfl,by decide,by decide⟩ (srcM tab_42 rfl (hM_ref0 (f := encBo) rfl rfl)) rfl rfl (by (simp; omega)) ⟨rfl,rfl,rfl⟩) rfl ⟨rfl,trivial⟩ rfl rfl ?_
    refine d_op ?_
    refine x_run0 [(3,PV.ptr 1 0)] [0,1,2,3,4,5,6] rfl rfl rfl rfl (s_fa_ptr tab_46 rfl rfl tab_42 (by decide) rfl ⟨rfl,rfl,rfl⟩) ?_
    refine d_op ?_
    refine xT [(81,PV.ptr 1 5),(80,PV.ref 5 0 none)] [0,1,2,3,4,5,6,7] [(1,.obj [pI e1,pI (tNext L (tStep L a 12) 70),pI (tNext L (tStep L (tStep L a 12) 70) 26),pI 0,pI 0,PV.ref 2 0 none,pNil,p16 0,p16 0])] [(1,.obj [pI e1,pI (tNext L (tStep L a 12) 70),pI (tNext L (tStep L (tStep L a 12) 70) 26),pI 0,pI 0,PV.ref 5 0 none,pNil,p16 0,p16 0])] [(5,oB true 1 encBo (os ++ [decide (tNext L ap 2 = 1)])),(4,oB true 1 encBo [decide (tNext L ap 2 = 1)]),(0,.obj [pS 1 false encI L,pN (tStep L ap 2)]),(3,.obj [pI 0,pI 0,pI 0,pI 0,pI 0,pNil,pNil,p16 0,p16 0])] rfl rfl rfl rfl rfl (s_store_ptr tab_42 rfl rfl rfl rfl rfl (Nat.le_of_ble_eq_true rfl) ⟨rfl,rfl,rfl⟩) rfl rfl ?_
    refine d_end ⟨by kernel_rfl, ?_⟩
    refine q_block ?_
    refine q_then ?_
    refine w_R ?_
    refine qm hnt rfl rfl ?_
    refine qo hnt rfl (s_addN (a := i) (b := 1) rfl rfl (by omega) (by omega) (by omega) ?_)
    refine qa hnt rfl rfl ?_
    refine r_end ?_
    refine q_then ?_
    refine ⟨(tStep L ap 2),(os ++ [decide (tNext L ap 2 = 1)]),(i + 1), ?_, ?_,⟨[(0,0),(1,1),(2,5),(3,3)],by rw [hk]; decide,⟨⟨_,rfl,rfl,rfl⟩,⟨_,rfl,rfl,rfl⟩,⟨_,rfl,rfl,rfl⟩,⟨_,rfl,rfl,rfl⟩,trivial⟩,⟨⟨_,_,rfl,rfl,rfl,rfl⟩,⟨_,_,rfl,rfl,rfl,rfl⟩,⟨_,_,rfl,rfl,rfl,rfl⟩,⟨_,_,rfl,rfl,rfl,rfl⟩,trivial⟩,by rw [hk]; decide⟩⟩
    ·
     exact ⟨by omega,by simp [hol]⟩
    · omega
   have c9_ := c9
   try simp only [sB] at c9
   refine w_exit ?_
   refine q_then_exit ?_
   refine q_then_exit ?_
   refine q_block_exit ?_
   refine q_block ?_
   refine q_then ?_
   refine w_seq ?_
   refine w_R ?_
   refine qo hnt rfl (s_load_ptr tab_46 rfl rfl rfl (Nat.le_of_ble_eq_true rfl) ?_)
   refine qo hnt rfl (s_store_ptr tab_46 rfl rfl rfl rfl rfl (Nat.le_of_ble_eq_true rfl) ?_)
   refine r_set [(2,PV.ptr 3 0)] [(3,.obj [pI e1,pI (tNext L (tStep L a 12) 70),pI (tNext L (tStep L (tStep L a 12) 70) 26),pI 0,pI 0,PV.ref 2 0 none,pNil,p16 0,p16 0]),(0,.obj [pS 1 false encI L,pN ap]),(1,.obj [pI e1,pI (tNext L (tStep L a 12) 70),pI (tNext L (tStep L (tStep L a 12) 70) 26),pI 0,pI 0,PV.ref 2 0 none,pNil,p16 0,p16 0]),(2,oB true 1 encBo os)] 4 ⟨rfl,trivial⟩ rfl rfl ?_
   refine r_end ?_
   refine q_then ?_
   refine w_frzC (n := 3) (j := 5) rfl rfl rfl rfl ?_
   refine w_leO (n := 3) (ds := [pI e1,pI (tNext L (tStep L a 12) 70),pI (tNext L (tStep L (tStep L a 12) 70) 26),pI 0,pI 0,pS 1 false encBo os,pS 1 false enc16 [],p16 0,p16 0]) rfl ⟨le_refl _,le_refl _,le_refl _,le_refl _,le_refl _,le_refl _,le_nilS 1 false,le_refl _,le_refl _,trivial⟩ ?_
   refine w_ret ?_
   have hex : rightR (⟨e1,tNext L (tStep L a 12) 70,tNext L (tStep L (tStep L a 12) 70) 26,0,0,os,[],0,0⟩ : TRequest) = 0 ∧ (⟨e1,tNext L (tStep L a 12) 70,tNext L (tStep L (tStep L a 12) 70) 26,0,0,os,[],0,0⟩ : TRequest).bits.length ≤ 25 ∧ (⟨e1,tNext L (tStep L a 12) 70,tNext L (tStep L (tStep L a 12) 70) 26,0,0,os,[],0,0⟩ : TRequest).vals.length ≤ 25 ∧ 0 ≤ (⟨e1,tNext L (tStep L a 12) 70,tNext L (tStep L (tStep L a 12) 70) 26,0,0,os,[],0,0⟩ : TRequest).count ∧ (⟨e1,tNext L (tStep L a 12) 70,tNext L (tStep L (tStep L a 12) 70) 26,0,0,os,[],0,0⟩ : TRequest).count ≤ 25 := by
     refine ⟨(shapeR_iff (q := _) hfn).2 ?_,by simp; try omega,by simp; try omega,by simp; try omega,by simp; try omega⟩
     constructor
     case bits => simp only; (rw [if_neg (by omega),if_pos (by omega)]; exact ⟨by omega,by omega⟩)
     case vals => simp only; (rw [if_neg (by omega),if_neg (by omega),if_neg (by omega)]; rfl)
     all_goals first|(intro _; rfl)|(intro _; exact ⟨rfl,rfl⟩)|(simp only; omega)
   exact fin_names (nx1 := 1) (H1 := [(0,.obj [pS 1 false encI L,pN ap])]) [(0,0)] (ret_cell tab_46 (by decide) rfl rfl (Nat.le_of_ble_eq_true rfl) rfl ret_nil) rfl (by decide) ⟨⟨_,_,rfl,rfl,rfl,rfl⟩,trivial⟩ (by decide) rfl ⟨((⟨e1,tNext L (tStep L a 12) 70,tNext L (tStep L (tStep L a 12) 70) 26,0,0,os,[],0,0⟩ : TRequest)),(ap),hex,rfl,rfl,rfl⟩
 have c8_ := c8
 try simp only [sB] at c8
 refine w_seq ?_
 refine w_R ?_
 refine qo hnt rfl (s_eql rfl rfl ?_)
 refine qa hnt rfl rfl ?_
 refine r_end ?_
 refine q_then ?_
 refine w_if rfl (fun c10 => ?_) (fun c10 => ?_)
 ·
  have c10_ := c10
  try simp only [sB] at c10
  refine w_seq ?_
  have h26 := tNext_lt L (tStep L (tStep L a 12) 70) (n := 26) (by decide)
  refine w_R ?_
  refine qm hnt rfl rfl ?_
  refine qm hnt rfl rfl ?_
  refine qo hnt rfl (s_callX (r2 := pI (tNext L (tStep L (tStep L a 12) 70) 26)) (nx1 := 4) (H2 := [(0,.obj [pS 1 false encI L,pN (tStep L (tStep L a 12) 70)]),(3,.obj [pI e1,pI 0,pI 0,pI 0,pI 0,pNil,pNil,p16 0,p16 0]),(2,oB true 1 encI fnsL),(1,.obj [pI 0,pI 0,pI 0,pI 0,pI 0,pNil,pNil,p16 0,p16 0])]) (H3 := [(0,.obj [pS 1 false encI L,pN (tStep L (tStep L (tStep L a 12) 70) 26)]),(3,.obj [pI e1,pI 0,pI 0,pI 0,pI 0,pNil,pNil,p16 0,p16 0]),(2,oB true 1 encI fnsL),(1,.obj [pI 0,pI 0,pI 0,pI 0,pI 0,pNil,pNil,p16 0,p16 0])]) [0] [.obj [pS 1 false encI L,pN (tStep L (tStep L a 12) 70)]] rfl rfl rfl (handed_of (by decide) ⟨rfl,trivial⟩) rfl rfl rfl rfl rfl rfl (w_burgagekeep_Tape_Next L false (tStep L (tStep L a 12) 70) 26 (by omega) (by omega)) rfl (dist_of rfl) rfl rfl rfl rfl ?_)
  refine qo hnt rfl (s_fa_ptr tab_46 rfl rfl tab_3 (by decide) rfl ?_)
  refine qo hnt rfl (s_store_ptr tab_3 rfl rfl rfl rfl rfl (Nat.le_of_ble_eq_true rfl) ?_)
  refine qo hnt rfl (s_fa_ptr tab_46 rfl rfl tab_3 (by decide) rfl ?_)
  refine qo hnt rfl (s_store_ptr tab_3 rfl rfl rfl rfl rfl (Nat.le_of_ble_eq_true rfl) ?_)
  refine r_set [(0,PV.ptr 0 0),(2,PV.ptr 1 0),(3,PV.ptr 3 0)] [(3,.obj [pI e1,pI (tNext L (tStep L a 12) 70),pI (tNext L (tStep L (tStep L a 12) 70) 26),pI 0,pI 0,pNil,pNil,p16 0,p16 0]),(0,.obj [pS 1 false encI L,pN (tStep L (tStep L (tStep L a 12) 70) 26)]),(2,oB true 1 encI fnsL),(1,.obj [pI 0,pI 0,pI 0,pI 0,pI 0,pNil,pNil,p16 0,p16 0])] 4 ⟨rfl,rfl,rfl,trivial⟩ rfl rfl ?_
  refine r_end ?_
  refine q_then ?_
  refine w_seq ?_
  refine w_R ?_
  refine qa hnt rfl rfl ?_
  refine r_end ?_
  refine q_then ?_
  refine w_block ?_
  refine w_adoptC (n := 3) (j := 6) (sz := 1) rfl rfl rfl ?_
  refine loop3 (fun (ap : Nat) (os : List UInt16) (i : Nat) => (i : Int) ≤ tNext L (tStep L (tStep L a 12) 70) 26 ∧ os.length = i) (fun (ap : Nat) (os : List UInt16) (i : Nat) => [(0,PV.ptr 0 0),(2,PV.ptr 3 0),(3,PV.ptr 1 0),(6,pN i)]) 4 (fun (ap : Nat) (os : List UInt16) (i : Nat) => [(0,.obj [pS 1 false encI L,pN ap]),(1,.obj [pI e1,pI (tNext L (tStep L a 12) 70),pI (tNext L (tStep L (tStep L a 12) 70) 26),pI 0,pI 0,pNil,PV.ref 2 0 none,p16 0,p16 0]),(2,oB true 1 enc16 os),(3,.obj [pI 0,pI 0,pI 0,pI 0,pI 0,pNil,pNil,p16 0,p16 0])]) (fun (ap : Nat) (os : List UInt16) (i : Nat) => (tNext L (tStep L (tStep L a 12) 70) 26).toNat - i) (tStep L (tStep L (tStep L a 12) 70) 26) (([] : List UInt16)) (0) ?_ ⟨[(0,0),(1,3),(2,4),(3,1)],by rw [hk]; decide,⟨⟨_,rfl,rfl,rfl⟩,⟨_,rfl,rfl,rfl⟩,⟨_,rfl,rfl,rfl⟩,⟨_,rfl,rfl,rfl⟩,trivial⟩,⟨⟨_,_,rfl,rfl,rfl,rfl⟩,⟨_,_,rfl,rfl,rfl,rfl⟩,⟨_,_,rfl,rfl,rfl,rfl⟩,⟨_,_,rfl,rfl,rfl,rfl⟩,trivial⟩,by rw [hk]; decide⟩ ?_
  · exact ⟨by omega,rfl⟩
  ·
   intro ap os i hI
   obtain ⟨hi,hol⟩ := hI
   refine w_seq ?_
   refine w_seq ?_
   refine w_R ?_
   refine qm hnt rfl rfl ?_
   refine qo hnt rfl (s_fa_ptr tab_46 rfl rfl tab_3 (by decide) rfl ?_)
   refine qo hnt rfl (s_load_ptr1 tab_3 rfl rfl rfl rfl rfl ?_)
   refine qo hnt rfl (s_lss rfl rfl ?_)
   refine r_end ?_
   refine q_then ?_
   refine w_if rfl (fun c11 => ?_) (fun c11 => ?_)
   ·
    have c11_ := c11
    try simp only [sB] at c11
    refine w_skip ?_
    refine q_then ?_
    refine w_seq ?_
    refine w_block ?_
    refine W_drawn tabOk mixed hnt [[],[0],[],[2],[2,3],[2,3,4],[0,1,2,3,4,5],[0,1,2,3,4,5,6],[0,1,2,3,4,5,6,7]] (by kernel_rfl) ?_
    refine d_op ?_
    refine x_run0 [(3,PV.ptr 1 0)] [] rfl rfl rfl rfl (s_fa_ptr tab_46 rfl rfl tab_43 (by decide) rfl ⟨rfl,rfl,rfl⟩) ?_
    refine d_op ?_
    refine xL [(95,PV.ptr 1 6)] [0] [(1,.obj [pI e1,pI (tNext L (tStep L a 12) 70),pI (tNext L (tStep L (tStep L a 12) 70) 26),pI 0,pI 0,pNil,PV.ref 2 0 none,p16 0,p16 0])] rfl rfl rfl rfl rfl (s_load_ptr1 tab_43 rfl rfl rfl rfl rfl ⟨rfl,rfl,rfl⟩) ⟨rfl,trivial⟩ rfl ?_
    refine d_op ?_
    refine x_run0 [(0,PV.ptr 0 0)] [] rfl rfl rfl rfl (s_move rfl ⟨rfl,rfl,rfl⟩) ?_
    refine d_op ?_
    refine xT [(97,PV.ptr 0 0)] [2] [(0,.obj [pS 1 false encI L,pN ap])] [(0,.obj [pS 1 false encI L,pN (tStep L ap 65536)])] [(1,.obj [pI e1,pI (tNext L (tStep L a 12) 70),pI (tNext L (tStep L (tStep L a 12) 70) 26),pI 0,pI 0,pNil,PV.ref 2 0 none,p16 0,p16 0]),(2,oB true 1 enc16 os),(3,.obj [pI 0,pI 0,pI 0,pI 0,pI 0,pNil,pNil,p16 0,p16 0])] rfl rfl rfl rfl rfl (s_callX (r2 := pI (tNext L ap 65536)) (nx1 := 4) (H2 := [(0,.obj [pS 1 false encI L,pN ap])]) (H3 := [(0,.obj [pS 1 false encI L,pN (tStep L ap 65536)])]) [0] [.obj [pS 1 false encI L,pN ap]] rfl rfl rfl (handed_of (by decide) ⟨rfl,trivial⟩) rfl rfl rfl rfl rfl rfl (w_burgagekeep_Tape_Next L false ap 65536 (by omega) (by omega)) rfl (dist_of rfl) rfl rfl rfl rfl ⟨rfl,rfl,rfl⟩) rfl rfl ?_
    refine d_op ?_
    refine x_run0 [(98,pI (tNext L ap 65536))] [2,3] rfl rfl rfl rfl (s_cv16 tab_3 tab_44 rfl rfl rfl ⟨rfl,rfl,rfl⟩) ?_
    refine d_op ?_
    refine xT [(99,p16 (u16I (tNext L ap 65536)))] [2,3,4] [] [(4,oB true 1 enc16 [u16I (tNext L ap 65536)])] [(0,.obj [pS 1 false encI L,pN (tStep L ap 65536)]),(1,.obj [pI e1,pI (tNext L (tStep L a 12) 70),pI (tNext L (tStep L (tStep L a 12) 70) 26),pI 0,pI 0,pNil,PV.ref 2 0 none,p16 0,p16 0]),(2,oB true 1 enc16 os),(3,.obj [pI 0,pI 0,pI 0,pI 0,pI 0,pNil,pNil,p16 0,p16 0])] rfl rfl rfl rfl rfl (s_mkM (f := enc16) [u16I (tNext L ap 65536)] tab_43 rfl tab_44 ⟨rfl,by decide⟩ (by decide) rfl rfl rfl rfl ⟨rfl,rfl,rfl⟩) rfl rfl ?_
    refine d_op ?_
    refine x_run [(96,PV.ref 2 0 none),(100,PV.ref 4 0 none)] [0,1,2,3,4,5] [(4,oB true 1 enc16 [u16I (tNext L ap 65536)])] [(2,oB true 1 enc16 os)] [(5,oB true 1 enc16 (os ++ [u16I (tNext L ap 65536)])),(4,oB true 1 enc16 [u16I (tNext L ap 65536)])] [(5,oB true 1 enc16 (os ++ [u16I (tNext L ap 65536)]))] [(5,oB true 1 enc16 (os ++ [u16I (tNext L ap 65536)])),(4,oB true 1 enc16 [u16I (tNext L ap 65536)]),(0,.obj [pS 1 false encI L,pN (tStep L ap 65536)]),(1,.obj [pI e1,pI (tNext L (tStep L a 12) 70),pI (tNext L (tStep L (tStep L a 12) 70) 26),pI 0,pI 0,pNil,PV.ref 2 0 none,p16 0,p16 0]),(3,.obj [pI 0,pI 0,pI 0,pI 0,pI 0,pNil,pNil,p16 0,p16 0])] rfl rfl rfl rfl rfl rfl (s_appR0 (f := enc16) (l := os) (xs := [u16I (tNext L ap 65536)]) tab_43 rfl tab_44 ⟨rfl,by decide,by decide⟩ (srcM tab_43 rfl (hM_ref0 (f := enc16) rfl rfl)) rfl rfl (by (simp; omega)) ⟨rfl,rfl,rfl⟩) rfl ⟨rfl,trivial⟩ rfl rfl ?_
    refine d_op ?_
    refine x_run0 [(3,PV.ptr 1 0)] [0,1,2,3,4,5,6] rfl rfl rfl rfl (s_fa_ptr tab_46 rfl rfl tab_43 (by decide) rfl ⟨rfl,rfl,rfl⟩) ?_
    refine d_op ?_
    refine xT [(102,PV.ptr 1 6),(101,PV.ref 5 0 none)] [0,1,2,3,4,5,6,7] [(1,.obj [pI e1,pI (tNext L (tStep L a 12) 70),pI (tNext L (tStep L (tStep L a 12) 70) 26),pI 0,pI 0,pNil,PV.ref 2 0 none,p16 0,p16 0])] [(1,.obj [pI e1,pI (tNext L (tStep L a 12) 70),pI (tNext L (tStep L (tStep L a 12) 70) 26),pI 0,pI 0,pNil,PV.ref 5 0 none,p16 0,p16 0])] [(5,oB true 1 enc16 (os ++ [u16I (tNext L ap 65536)])),(4,oB true 1 enc16 [u16I (tNext L ap 65536)]),(0,.obj [pS 1 false encI L,pN (tStep L ap 65536)]),(3,.obj [pI 0,pI 0,pI 0,pI 0,pI 0,pNil,pNil,p16 0,p16 0])] rfl rfl rfl rfl rfl (s_store_ptr tab_43 rfl rfl rfl rfl rfl (Nat.le_of_ble_eq_true rfl) ⟨rfl,rfl,rfl⟩) rfl rfl ?_
    refine d_end ⟨by kernel_rfl, ?_⟩
    refine q_block ?_
    refine q_then ?_
    refine w_R ?_
    refine qm hnt rfl rfl ?_
    refine qo hnt rfl (s_addN (a := i) (b := 1) rfl rfl (by omega) (by omega) (by omega) ?_)
    refine qa hnt rfl rfl ?_
    refine r_end ?_
    refine q_then ?_
    refine ⟨(tStep L ap 65536),(os ++ [u16I (tNext L ap 65536)]),(i + 1), ?_, ?_,⟨[(0,0),(1,1),(2,5),(3,3)],by rw [hk]; decide,⟨⟨_,rfl,rfl,rfl⟩,⟨_,rfl,rfl,rfl⟩,⟨_,rfl,rfl,rfl⟩,⟨_,rfl,rfl,rfl⟩,trivial⟩,⟨⟨_,_,rfl,rfl,rfl,rfl⟩,⟨_,_,rfl,rfl,rfl,rfl⟩,⟨_,_,rfl,rfl,rfl,rfl⟩,⟨_,_,rfl,rfl,rfl,rfl⟩,trivial⟩,by rw [hk]; decide⟩⟩
    ·
     exact ⟨by omega,by simp [hol]⟩
    · omega
   have c11_ := c11
   try simp only [sB] at c11
   refine w_exit ?_
   refine q_then_exit ?_
   refine q_then_exit ?_
   refine q_block_exit ?_
   refine q_block ?_
   refine q_then ?_
   refine w_seq ?_
   refine w_R ?_
   refine qo hnt rfl (s_load_ptr tab_46 rfl rfl rfl (Nat.le_of_ble_eq_true rfl) ?_)
   refine qo hnt rfl (s_store_ptr tab_46 rfl rfl rfl rfl rfl (Nat.le_of_ble_eq_true rfl) ?_)
   refine r_set [(2,PV.ptr 3 0)] [(3,.obj [pI e1,pI (tNext L (tStep L a 12) 70),pI (tNext L (tStep L (tStep L a 12) 70) 26),pI 0,pI 0,pNil,PV.ref 2 0 none,p16 0,p16 0]),(0,.obj [pS 1 false encI L,pN ap]),(1,.obj [pI e1,pI (tNext L (tStep L a 12) 70),pI (tNext L (tStep L (tStep L a 12) 70) 26),pI 0,pI 0,pNil,PV.ref 2 0 none,p16 0,p16 0]),(2,oB true 1 enc16 os)] 4 ⟨rfl,trivial⟩ rfl rfl ?_
   refine r_end ?_
   refine q_then ?_
   refine w_frzC (n := 3) (j := 6) rfl rfl rfl rfl ?_
   refine w_leO (n := 3) (ds := [pI e1,pI (tNext L (tStep L a 12) 70),pI (tNext L (tStep L (tStep L a 12) 70) 26),pI 0,pI 0,pS 1 false encBo [],pS 1 false enc16 os,p16 0,p16 0]) rfl ⟨le_refl _,le_refl _,le_refl _,le_refl _,le_refl _,le_nilS 1 false,le_refl _,le_refl _,le_refl _,trivial⟩ ?_
   refine w_ret ?_
   have hex : rightR (⟨e1,tNext L (tStep L a 12) 70,tNext L (tStep L (tStep L a 12) 70) 26,0,0,[],os,0,0⟩ : TRequest) = 0 ∧ (⟨e1,tNext L (tStep L a 12) 70,tNext L (tStep L (tStep L a 12) 70) 26,0,0,[],os,0,0⟩ : TRequest).bits.length ≤ 25 ∧ (⟨e1,tNext L (tStep L a 12) 70,tNext L (tStep L (tStep L a 12) 70) 26,0,0,[],os,0,0⟩ : TRequest).vals.length ≤ 25 ∧ 0 ≤ (⟨e1,tNext L (tStep L a 12) 70,tNext L (tStep L (tStep L a 12) 70) 26,0,0,[],os,0,0⟩ : TRequest).count ∧ (⟨e1,tNext L (tStep L a 12) 70,tNext L (tStep L (tStep L a 12) 70) 26,0,0,[],os,0,0⟩ : TRequest).count ≤ 25 := by
     refine ⟨(shapeR_iff (q := _) hfn).2 ?_,by simp; try omega,by simp; try omega,by simp; try omega,by simp; try omega⟩
     constructor
     case bits => simp only; (rw [if_neg (by omega),if_neg (by omega)]; rfl)
     case vals => simp only; (rw [if_neg (by omega),if_pos (by omega)]; exact ⟨by omega,by omega⟩)
     all_goals first|(intro _; rfl)|(intro _; exact ⟨rfl,rfl⟩)|(simp only; omega)
   exact fin_names (nx1 := 1) (H1 := [(0,.obj [pS 1 false encI L,pN ap])]) [(0,0)] (ret_cell tab_46 (by decide) rfl rfl (Nat.le_of_ble_eq_true rfl) rfl ret_nil) rfl (by decide) ⟨⟨_,_,rfl,rfl,rfl,rfl⟩,trivial⟩ (by decide) rfl ⟨((⟨e1,tNext L (tStep L a 12) 70,tNext L (tStep L (tStep L a 12) 70) 26,0,0,[],os,0,0⟩ : TRequest)),(ap),hex,rfl,rfl,rfl⟩
 have c10_ := c10
 try simp only [sB] at c10
 refine w_seq ?_
 refine w_R ?_
 refine qo hnt rfl (s_eql rfl rfl ?_)
 refine qa hnt rfl rfl ?_
 refine r_end ?_
 refine q_then ?_
 refine w_if rfl (fun c12 => ?_) (fun c12 => ?_)
 ·
  have c12_ := c12
  try simp only [sB] at c12
  refine w_R ?_
  refine qm hnt rfl rfl ?_
  refine qm hnt rfl rfl ?_
  refine qo hnt rfl (s_callX (r2 := pI (tNext L (tStep L (tStep L a 12) 70) 65536)) (nx1 := 4) (H2 := [(0,.obj [pS 1 false encI L,pN (tStep L (tStep L a 12) 70)]),(3,.obj [pI e1,pI 0,pI 0,pI 0,pI 0,pNil,pNil,p16 0,p16 0]),(2,oB true 1 encI fnsL),(1,.obj [pI 0,pI 0,pI 0,pI 0,pI 0,pNil,pNil,p16 0,p16 0])]) (H3 := [(0,.obj [pS 1 false encI L,pN (tStep L (tStep L (tStep L a 12) 70) 65536)]),(3,.obj [pI e1,pI 0,pI 0,pI 0,pI 0,pNil,pNil,p16 0,p16 0]),(2,oB true 1 encI fnsL),(1,.obj [pI 0,pI 0,pI 0,pI 0,pI 0,pNil,pNil,p16 0,p16 0])]) [0] [.obj [pS 1 false encI L,pN (tStep L (tStep L a 12) 70)]] rfl rfl rfl (handed_of (by decide) ⟨rfl,trivial⟩) rfl rfl rfl rfl rfl rfl (w_burgagekeep_Tape_Next L false (tStep L (tStep L a 12) 70) 65536 (by omega) (by omega)) rfl (dist_of rfl) rfl rfl rfl rfl ?_)
  refine qo hnt rfl (s_cv16 tab_3 tab_44 rfl rfl rfl ?_)
  refine qm hnt rfl rfl ?_
  refine qo hnt rfl (s_callX (r2 := pI (tNext L (tStep L (tStep L (tStep L a 12) 70) 65536) 65536)) (nx1 := 4) (H2 := [(0,.obj [pS 1 false encI L,pN (tStep L (tStep L (tStep L a 12) 70) 65536)]),(3,.obj [pI e1,pI 0,pI 0,pI 0,pI 0,pNil,pNil,p16 0,p16 0]),(2,oB true 1 encI fnsL),(1,.obj [pI 0,pI 0,pI 0,pI 0,pI 0,pNil,pNil,p16 0,p16 0])]) (H3 := [(0,.obj [pS 1 false encI L,pN (tStep L (tStep L (tStep L (tStep L a 12) 70) 65536) 65536)]),(3,.obj [pI e1,pI 0,pI 0,pI 0,pI 0,pNil,pNil,p16 0,p16 0]),(2,oB true 1 encI fnsL),(1,.obj [pI 0,pI 0,pI 0,pI 0,pI 0,pNil,pNil,p16 0,p16 0])]) [0] [.obj [pS 1 false encI L,pN (tStep L (tStep L (tStep L a 12) 70) 65536)]] rfl rfl rfl (handed_of (by decide) ⟨rfl,trivial⟩) rfl rfl rfl rfl rfl rfl (w_burgagekeep_Tape_Next L false (tStep L (tStep L (tStep L a 12) 70) 65536) 65536 (by omega) (by omega)) rfl (dist_of rfl) rfl rfl rfl rfl ?_)
  refine qo hnt rfl (s_cv16 tab_3 tab_44 rfl rfl rfl ?_)
  refine qo hnt rfl (s_fa_ptr tab_46 rfl rfl tab_3 (by decide) rfl ?_)
  refine qo hnt rfl (s_store_ptr tab_3 rfl rfl rfl rfl rfl (Nat.le_of_ble_eq_true rfl) ?_)
  refine qo hnt rfl (s_fa_ptr tab_46 rfl rfl tab_44 (by decide) rfl ?_)
  refine qo hnt rfl (s_store_ptr tab_44 rfl rfl rfl rfl rfl (Nat.le_of_ble_eq_true rfl) ?_)
  refine qo hnt rfl (s_fa_ptr tab_46 rfl rfl tab_44 (by decide) rfl ?_)
  refine qo hnt rfl (s_store_ptr tab_44 rfl rfl rfl rfl rfl (Nat.le_of_ble_eq_true rfl) ?_)
  refine r_set [(2,PV.ptr 1 0),(3,PV.ptr 3 0)] [(3,.obj [pI e1,pI (tNext L (tStep L a 12) 70),pI 0,pI 0,pI 0,pNil,pNil,p16 (u16I (tNext L (tStep L (tStep L a 12) 70) 65536)),p16 (u16I (tNext L (tStep L (tStep L (tStep L a 12) 70) 65536) 65536))]),(0,.obj [pS 1 false encI L,pN (tStep L (tStep L (tStep L (tStep L a 12) 70) 65536) 65536)]),(2,oB true 1 encI fnsL),(1,.obj [pI 0,pI 0,pI 0,pI 0,pI 0,pNil,pNil,p16 0,p16 0])] 4 ⟨rfl,rfl,trivial⟩ rfl rfl ?_
  refine r_end ?_
  refine q_block ?_
  refine q_then ?_
  refine w_seq ?_
  refine w_R ?_
  refine qo hnt rfl (s_load_ptr tab_46 rfl rfl rfl (Nat.le_of_ble_eq_true rfl) ?_)
  refine qo hnt rfl (s_store_ptr tab_46 rfl rfl rfl rfl rfl (Nat.le_of_ble_eq_true rfl) ?_)
  refine r_set [(2,PV.ptr 1 0)] [(1,.obj [pI e1,pI (tNext L (tStep L a 12) 70),pI 0,pI 0,pI 0,pNil,pNil,p16 (u16I (tNext L (tStep L (tStep L a 12) 70) 65536)),p16 (u16I (tNext L (tStep L (tStep L (tStep L a 12) 70) 65536) 65536))]),(3,.obj [pI e1,pI (tNext L (tStep L a 12) 70),pI 0,pI 0,pI 0,pNil,pNil,p16 (u16I (tNext L (tStep L (tStep L a 12) 70) 65536)),p16 (u16I (tNext L (tStep L (tStep L (tStep L a 12) 70) 65536) 65536))]),(0,.obj [pS 1 false encI L,pN (tStep L (tStep L (tStep L (tStep L a 12) 70) 65536) 65536)]),(2,oB true 1 encI fnsL)] 4 ⟨rfl,trivial⟩ rfl rfl ?_
  refine r_end ?_
  refine q_then ?_
  refine w_leO (n := 1) (ds := [pI e1,pI (tNext L (tStep L a 12) 70),pI 0,pI 0,pI 0,pS 1 false encBo [],pS 1 false enc16 [],p16 (u16I (tNext L (tStep L (tStep L a 12) 70) 65536)),p16 (u16I (tNext L (tStep L (tStep L (tStep L a 12) 70) 65536) 65536))]) rfl ⟨le_refl _,le_refl _,le_refl _,le_refl _,le_refl _,le_nilS 1 false,le_nilS 1 false,le_refl _,le_refl _,trivial⟩ ?_
  refine w_ret ?_
  have hex : rightR (⟨e1,tNext L (tStep L a 12) 70,0,0,0,[],[],u16I (tNext L (tStep L (tStep L a 12) 70) 65536),u16I (tNext L (tStep L (tStep L (tStep L a 12) 70) 65536) 65536)⟩ : TRequest) = 0 ∧ (⟨e1,tNext L (tStep L a 12) 70,0,0,0,[],[],u16I (tNext L (tStep L (tStep L a 12) 70) 65536),u16I (tNext L (tStep L (tStep L (tStep L a 12) 70) 65536) 65536)⟩ : TRequest).bits.length ≤ 25 ∧ (⟨e1,tNext L (tStep L a 12) 70,0,0,0,[],[],u16I (tNext L (tStep L (tStep L a 12) 70) 65536),u16I (tNext L (tStep L (tStep L (tStep L a 12) 70) 65536) 65536)⟩ : TRequest).vals.length ≤ 25 ∧ 0 ≤ (⟨e1,tNext L (tStep L a 12) 70,0,0,0,[],[],u16I (tNext L (tStep L (tStep L a 12) 70) 65536),u16I (tNext L (tStep L (tStep L (tStep L a 12) 70) 65536) 65536)⟩ : TRequest).count ∧ (⟨e1,tNext L (tStep L a 12) 70,0,0,0,[],[],u16I (tNext L (tStep L (tStep L a 12) 70) 65536),u16I (tNext L (tStep L (tStep L (tStep L a 12) 70) 65536) 65536)⟩ : TRequest).count ≤ 25 := by
    refine ⟨(shapeR_iff (q := _) hfn).2 ?_,by simp; try omega,by simp; try omega,by simp; try omega,by simp; try omega⟩
    constructor
    case bits => simp only; (rw [if_neg (by omega),if_neg (by omega)]; rfl)
    case vals => simp only; (rw [if_neg (by omega),if_neg (by omega),if_neg (by omega)]; rfl)
    all_goals first|(intro _; rfl)|(simp only; omega)
  exact fin_names (nx1 := 1) (H1 := [(0,.obj [pS 1 false encI L,pN (tStep L (tStep L (tStep L (tStep L a 12) 70) 65536) 65536)])]) [(0,0)] (ret_cell tab_46 (by decide) rfl rfl (Nat.le_of_ble_eq_true rfl) rfl ret_nil) rfl (by decide) ⟨⟨_,_,rfl,rfl,rfl,rfl⟩,trivial⟩ (by decide) rfl ⟨((⟨e1,tNext L (tStep L a 12) 70,0,0,0,[],[],u16I (tNext L (tStep L (tStep L a 12) 70) 65536),u16I (tNext L (tStep L (tStep L (tStep L a 12) 70) 65536) 65536)⟩ : TRequest)),(tStep L (tStep L (tStep L (tStep L a 12) 70) 65536) 65536),hex,rfl,rfl,rfl⟩
 have c12_ := c12
 try simp only [sB] at c12
 refine w_seq ?_
 refine w_R ?_
 refine qo hnt rfl (s_eql rfl rfl ?_)
 refine qa hnt rfl rfl ?_
 refine r_end ?_
 refine q_then ?_
 refine w_if rfl (fun c13 => ?_) (fun c13 => ?_)
 ·
  have c13_ := c13
  try simp only [sB] at c13
  refine w_seq ?_
  have h20 := tNext_lt L (tStep L (tStep L a 12) 70) (n := 20) (by decide)
  have h40 := tNext_lt L (tStep L (tStep L (tStep L a 12) 70) 20) (n := 40) (by decide)
  refine w_R ?_
  refine qm hnt rfl rfl ?_
  refine qm hnt rfl rfl ?_
  refine qo hnt rfl (s_callX (r2 := pI (tNext L (tStep L (tStep L a 12) 70) 20)) (nx1 := 4) (H2 := [(0,.obj [pS 1 false encI L,pN (tStep L (tStep L a 12) 70)]),(3,.obj [pI e1,pI 0,pI 0,pI 0,pI 0,pNil,pNil,p16 0,p16 0]),(2,oB true 1 encI fnsL),(1,.obj [pI 0,pI 0,pI 0,pI 0,pI 0,pNil,pNil,p16 0,p16 0])]) (H3 := [(0,.obj [pS 1 false encI L,pN (tStep L (tStep L (tStep L a 12) 70) 20)]),(3,.obj [pI e1,pI 0,pI 0,pI 0,pI 0,pNil,pNil,p16 0,p16 0]),(2,oB true 1 encI fnsL),(1,.obj [pI 0,pI 0,pI 0,pI 0,pI 0,pNil,pNil,p16 0,p16 0])]) [0] [.obj [pS 1 false encI L,pN (tStep L (tStep L a 12) 70)]] rfl rfl rfl (handed_of (by decide) ⟨rfl,trivial⟩) rfl rfl rfl rfl rfl rfl (w_burgagekeep_Tape_Next L false (tStep L (tStep L a 12) 70) 20 (by omega) (by omega)) rfl (dist_of rfl) rfl rfl rfl rfl ?_)
  refine qm hnt rfl rfl ?_
  refine qo hnt rfl (s_callX (r2 := pI (tNext L (tStep L (tStep L (tStep L a 12) 70) 20) 40)) (nx1 := 4) (H2 := [(0,.obj [pS 1 false encI L,pN (tStep L (tStep L (tStep L a 12) 70) 20)]),(3,.obj [pI e1,pI 0,pI 0,pI 0,pI 0,pNil,pNil,p16 0,p16 0]),(2,oB true 1 encI fnsL),(1,.obj [pI 0,pI 0,pI 0,pI 0,pI 0,pNil,pNil,p16 0,p16 0])]) (H3 := [(0,.obj [pS 1 false encI L,pN (tStep L (tStep L (tStep L (tStep L a 12) 70) 20) 40)]),(3,.obj [pI e1,pI 0,pI 0,pI 0,pI 0,pNil,pNil,p16 0,p16 0]),(2,oB true 1 encI fnsL),(1,.obj [pI 0,pI 0,pI 0,pI 0,pI 0,pNil,pNil,p16 0,p16 0])]) [0] [.obj [pS 1 false encI L,pN (tStep L (tStep L (tStep L a 12) 70) 20)]] rfl rfl rfl (handed_of (by decide) ⟨rfl,trivial⟩) rfl rfl rfl rfl rfl rfl (w_burgagekeep_Tape_Next L false (tStep L (tStep L (tStep L a 12) 70) 20) 40 (by omega) (by omega)) rfl (dist_of rfl) rfl rfl rfl rfl ?_)
  refine qo hnt rfl (s_fa_ptr tab_46 rfl rfl tab_3 (by decide) rfl ?_)
  refine qo hnt rfl (s_store_ptr tab_3 rfl rfl rfl rfl rfl (Nat.le_of_ble_eq_true rfl) ?_)
  refine qo hnt rfl (s_fa_ptr tab_46 rfl rfl tab_3 (by decide) rfl ?_)
  refine qo hnt rfl (s_store_ptr tab_3 rfl rfl rfl rfl rfl (Nat.le_of_ble_eq_true rfl) ?_)
  refine qo hnt rfl (s_fa_ptr tab_46 rfl rfl tab_3 (by decide) rfl ?_)
  refine qo hnt rfl (s_store_ptr tab_3 rfl rfl rfl rfl rfl (Nat.le_of_ble_eq_true rfl) ?_)
  refine r_set [(0,PV.ptr 0 0),(2,PV.ptr 1 0),(3,PV.ptr 3 0)] [(3,.obj [pI e1,pI (tNext L (tStep L a 12) 70),pI (tNext L (tStep L (tStep L a 12) 70) 20),pI (tNext L (tStep L (tStep L (tStep L a 12) 70) 20) 40),pI 0,pNil,pNil,p16 0,p16 0]),(0,.obj [pS 1 false encI L,pN (tStep L (tStep L (tStep L (tStep L a 12) 70) 20) 40)]),(2,oB true 1 encI fnsL),(1,.obj [pI 0,pI 0,pI 0,pI 0,pI 0,pNil,pNil,p16 0,p16 0])] 4 ⟨rfl,rfl,rfl,trivial⟩ rfl rfl ?_
  refine r_end ?_
  refine q_then ?_
  refine w_seq ?_
  have h22 := tNext_lt L (tStep L (tStep L (tStep L (tStep L a 12) 70) 20) 40) (n := 20) (by decide)
  refine w_R ?_
  refine qm hnt rfl rfl ?_
  refine qo hnt rfl (s_callX (r2 := pI (tNext L (tStep L (tStep L (tStep L (tStep L a 12) 70) 20) 40) 20)) (nx1 := 4) (H2 := [(3,.obj [pI e1,pI (tNext L (tStep L a 12) 70),pI (tNext L (tStep L (tStep L a 12) 70) 20),pI (tNext L (tStep L (tStep L (tStep L a 12) 70) 20) 40),pI 0,pNil,pNil,p16 0,p16 0]),(0,.obj [pS 1 false encI L,pN (tStep L (tStep L (tStep L (tStep L a 12) 70) 20) 40)]),(2,oB true 1 encI fnsL),(1,.obj [pI 0,pI 0,pI 0,pI 0,pI 0,pNil,pNil,p16 0,p16 0])]) (H3 := [(0,.obj [pS 1 false encI L,pN (tStep L (tStep L (tStep L (tStep L (tStep L a 12) 70) 20) 40) 20)]),(3,.obj [pI e1,pI (tNext L (tStep L a 12) 70),pI (tNext L (tStep L (tStep L a 12) 70) 20),pI (tNext L (tStep L (tStep L (tStep L a 12) 70) 20) 40),pI 0,pNil,pNil,p16 0,p16 0]),(2,oB true 1 encI fnsL),(1,.obj [pI 0,pI 0,pI 0,pI 0,pI 0,pNil,pNil,p16 0,p16 0])]) [0] [.obj [pS 1 false encI L,pN (tStep L (tStep L (tStep L (tStep L a 12) 70) 20) 40)]] rfl rfl rfl (handed_of (by decide) ⟨rfl,trivial⟩) rfl rfl rfl rfl rfl rfl (w_burgagekeep_Tape_Next L false (tStep L (tStep L (tStep L (tStep L a 12) 70) 20) 40) 20 (by omega) (by omega)) rfl (dist_of rfl) rfl rfl rfl rfl ?_)
  refine qa hnt rfl rfl ?_
  refine r_set [(0,PV.ptr 0 0),(2,PV.ptr 1 0),(3,PV.ptr 3 0),(7,pI (tNext L (tStep L (tStep L (tStep L (tStep L a 12) 70) 20) 40) 20))] [(0,.obj [pS 1 false encI L,pN (tStep L (tStep L (tStep L (tStep L (tStep L a 12) 70) 20) 40) 20)]),(3,.obj [pI e1,pI (tNext L (tStep L a 12) 70),pI (tNext L (tStep L (tStep L a 12) 70) 20),pI (tNext L (tStep L (tStep L (tStep L a 12) 70) 20) 40),pI 0,pNil,pNil,p16 0,p16 0]),(2,oB true 1 encI fnsL),(1,.obj [pI 0,pI 0,pI 0,pI 0,pI 0,pNil,pNil,p16 0,p16 0])] 4 ⟨rfl,rfl,rfl,rfl,trivial⟩ rfl rfl ?_
  refine r_end ?_
  refine q_then ?_
  refine w_block ?_
  refine w_adoptC (n := 3) (j := 6) (sz := 1) rfl rfl rfl ?_
  refine loop3 (fun (ap : Nat) (os : List UInt16) (k : Int) => (os.length : Int) + k ≤ 19 ∧ 0 ≤ k) (fun (ap : Nat) (os : List UInt16) (k : Int) => [(0,PV.ptr 0 0),(2,PV.ptr 3 0),(3,PV.ptr 1 0),(7,pI k)]) 4 (fun (ap : Nat) (os : List UInt16) (k : Int) => [(0,.obj [pS 1 false encI L,pN ap]),(1,.obj [pI e1,pI (tNext L (tStep L a 12) 70),pI (tNext L (tStep L (tStep L a 12) 70) 20),pI (tNext L (tStep L (tStep L (tStep L a 12) 70) 20) 40),pI 0,pNil,PV.ref 2 0 none,p16 0,p16 0]),(2,oB true 1 enc16 os),(3,.obj [pI 0,pI 0,pI 0,pI 0,pI 0,pNil,pNil,p16 0,p16 0])]) (fun (ap : Nat) (os : List UInt16) (k : Int) => k.toNat) (tStep L (tStep L (tStep L (tStep L (tStep L a 12) 70) 20) 40) 20) (([] : List UInt16)) (tNext L (tStep L (tStep L (tStep L (tStep L a 12) 70) 20) 40) 20) ?_ ⟨[(0,0),(1,3),(2,4),(3,1)],by rw [hk]; decide,⟨⟨_,rfl,rfl,rfl⟩,⟨_,rfl,rfl,rfl⟩,⟨_,rfl,rfl,rfl⟩,⟨_,rfl,rfl,rfl⟩,trivial⟩,⟨⟨_,_,rfl,rfl,rfl,rfl⟩,⟨_,_,rfl,rfl,rfl,rfl⟩,⟨_,_,rfl,rfl,rfl,rfl⟩,⟨_,_,rfl,rfl,rfl,rfl⟩,trivial⟩,by rw [hk]; decide⟩ ?_
  · exact ⟨by simp; omega,by omega⟩
  ·
   intro ap os k hI
   obtain ⟨hkm,hk0⟩ := hI
   refine w_seq ?_
   refine w_seq ?_
   refine w_R ?_
   refine qm hnt rfl rfl ?_
   refine qo hnt rfl (s_gtr rfl rfl ?_)
   refine r_end ?_
   refine q_then ?_
   refine w_if rfl (fun c14 => ?_) (fun c14 => ?_)
   ·
    have c14_ := c14
    try simp only [sB] at c14
    refine w_skip ?_
    refine q_then ?_
    refine w_seq ?_
    refine w_block ?_
    refine W_drawn tabOk mixed hnt [[],[0],[],[2],[2,3],[2,3,4],[0,1,2,3,4,5],[0,1,2,3,4,5,6],[0,1,2,3,4,5,6,7]] (by kernel_rfl) ?_
    refine d_op ?_
    refine x_run0 [(3,PV.ptr 1 0)] [] rfl rfl rfl rfl (s_fa_ptr tab_46 rfl rfl tab_43 (by decide) rfl ⟨rfl,rfl,rfl⟩) ?_
    refine d_op ?_
    refine xL [(131,PV.ptr 1 6)] [0] [(1,.obj [pI e1,pI (tNext L (tStep L a 12) 70),pI (tNext L (tStep L (tStep L a 12) 70) 20),pI (tNext L (tStep L (tStep L (tStep L a 12) 70) 20) 40),pI 0,pNil,PV.ref 2 0 none,p16 0,p16 0])] rfl rfl rfl rfl rfl (s_load_ptr1 tab_43 rfl rfl rfl rfl rfl ⟨rfl,rfl,rfl⟩) ⟨rfl,trivial⟩ rfl ?_
    refine d_op ?_
    refine x_run0 [(0,PV.ptr 0 0)] [] rfl rfl rfl rfl (s_move rfl ⟨rfl,rfl,rfl⟩) ?_
    refine d_op ?_
    refine xT [(133,PV.ptr 0 0)] [2] [(0,.obj [pS 1 false encI L,pN ap])] [(0,.obj [pS 1 false encI L,pN (tStep L ap 65536)])] [(1,.obj [pI e1,pI (tNext L (tStep L a 12) 70),pI (tNext L (tStep L (tStep L a 12) 70) 20),pI (tNext L (tStep L (tStep L (tStep L a 12) 70) 20) 40),pI 0,pNil,PV.ref 2 0 none,p16 0,p16 0]),(2,oB true 1 enc16 os),(3,.obj [pI 0,pI 0,pI 0,pI 0,pI 0,pNil,pNil,p16 0,p16 0])] rfl rfl rfl rfl rfl (s_callX (r2 := pI (tNext L ap 65536)) (nx1 := 4) (H2 := [(0,.obj [pS 1 false encI L,pN ap])]) (H3 := [(0,.obj [pS 1 false encI L,pN (tStep L ap 65536)])]) [0] [.obj [pS 1 false encI L,pN ap]] rfl rfl rfl (handed_of (by decide) ⟨rfl,trivial⟩) rfl rfl rfl rfl rfl rfl (w_burgagekeep_Tape_Next L false ap 65536 (by omega) (by omega)) rfl (dist_of rfl) rfl rfl rfl rfl ⟨rfl,rfl,rfl⟩) rfl rfl ?_
    refine d_op ?_
    refine x_run0 [(134,pI (tNext L ap 65536))] [2,3] rfl rfl rfl rfl (s_cv16 tab_3 tab_44 rfl rfl rfl ⟨rfl,rfl,rfl⟩) ?_
    refine d_op ?_
    refine xT [(135,p16 (u16I (tNext L ap 65536)))] [2,3,4] [] [(4,oB true 1 enc16 [u16I (tNext L ap 65536)])] [(0,.obj [pS 1 false encI L,pN (tStep L ap 65536)]),(1,.obj [pI e1,pI (tNext L (tStep L a 12) 70),pI (tNext L (tStep L (tStep L a 12) 70) 20),pI (tNext L (tStep L (tStep L (tStep L a 12) 70) 20) 40),pI 0,pNil,PV.ref 2 0 none,p16 0,p16 0]),(2,oB true 1 enc16 os),(3,.obj [pI 0,pI 0,pI 0,pI 0,pI 0,pNil,pNil,p16 0,p16 0])] rfl rfl rfl rfl rfl (s_mkM (f := enc16) [u16I (tNext L ap 65536)] tab_43 rfl tab_44 ⟨rfl,by decide⟩ (by decide) rfl rfl rfl rfl ⟨rfl,rfl,rfl⟩) rfl rfl ?_
    refine d_op ?_
    refine x_run [(132,PV.ref 2 0 none),(136,PV.ref 4 0 none)] [0,1,2,3,4,5] [(4,oB true 1 enc16 [u16I (tNext L ap 65536)])] [(2,oB true 1 enc16 os)] [(5,oB true 1 enc16 (os ++ [u16I (tNext L ap 65536)])),(4,oB true 1 enc16 [u16I (tNext L ap 65536)])] [(5,oB true 1 enc16 (os ++ [u16I (tNext L ap 65536)]))] [(5,oB true 1 enc16 (os ++ [u16I (tNext L ap 65536)])),(4,oB true 1 enc16 [u16I (tNext L ap 65536)]),(0,.obj [pS 1 false encI L,pN (tStep L ap 65536)]),(1,.obj [pI e1,pI (tNext L (tStep L a 12) 70),pI (tNext L (tStep L (tStep L a 12) 70) 20),pI (tNext L (tStep L (tStep L (tStep L a 12) 70) 20) 40),pI 0,pNil,PV.ref 2 0 none,p16 0,p16 0]),(3,.obj [pI 0,pI 0,pI 0,pI 0,pI 0,pNil,pNil,p16 0,p16 0])] rfl rfl rfl rfl rfl rfl (s_appR0 (f := enc16) (l := os) (xs := [u16I (tNext L ap 65536)]) tab_43 rfl tab_44 ⟨rfl,by decide,by decide⟩ (srcM tab_43 rfl (hM_ref0 (f := enc16) rfl rfl)) rfl rfl (by (simp; omega)) ⟨rfl,rfl,rfl⟩) rfl ⟨rfl,trivial⟩ rfl rfl ?_
    refine d_op ?_
    refine x_run0 [(3,PV.ptr 1 0)] [0,1,2,3,4,5,6] rfl rfl rfl rfl (s_fa_ptr tab_46 rfl rfl tab_43 (by decide) rfl ⟨rfl,rfl,rfl⟩) ?_
    refine d_op ?_
    refine xT [(138,PV.ptr 1 6),(137,PV.ref 5 0 none)] [0,1,2,3,4,5,6,7] [(1,.obj [pI e1,pI (tNext L (tStep L a 12) 70),pI (tNext L (tStep L (tStep L a 12) 70) 20),pI (tNext L (tStep L (tStep L (tStep L a 12) 70) 20) 40),pI 0,pNil,PV.ref 2 0 none,p16 0,p16 0])] [(1,.obj [pI e1,pI (tNext L (tStep L a 12) 70),pI (tNext L (tStep L (tStep L a 12) 70) 20),pI (tNext L (tStep L (tStep L (tStep L a 12) 70) 20) 40),pI 0,pNil,PV.ref 5 0 none,p16 0,p16 0])] [(5,oB true 1 enc16 (os ++ [u16I (tNext L ap 65536)])),(4,oB true 1 enc16 [u16I (tNext L ap 65536)]),(0,.obj [pS 1 false encI L,pN (tStep L ap 65536)]),(3,.obj [pI 0,pI 0,pI 0,pI 0,pI 0,pNil,pNil,p16 0,p16 0])] rfl rfl rfl rfl rfl (s_store_ptr tab_43 rfl rfl rfl rfl rfl (Nat.le_of_ble_eq_true rfl) ⟨rfl,rfl,rfl⟩) rfl rfl ?_
    refine d_end ⟨by kernel_rfl, ?_⟩
    refine q_block ?_
    refine q_then ?_
    refine w_R ?_
    refine qm hnt rfl rfl ?_
    refine qo hnt rfl (s_subi (r := k - 1) rfl rfl rfl (by omega) ?_)
    refine qa hnt rfl rfl ?_
    refine r_end ?_
    refine q_then ?_
    refine ⟨(tStep L ap 65536),(os ++ [u16I (tNext L ap 65536)]),(k - 1), ?_, ?_,⟨[(0,0),(1,1),(2,5),(3,3)],by rw [hk]; decide,⟨⟨_,rfl,rfl,rfl⟩,⟨_,rfl,rfl,rfl⟩,⟨_,rfl,rfl,rfl⟩,⟨_,rfl,rfl,rfl⟩,trivial⟩,⟨⟨_,_,rfl,rfl,rfl,rfl⟩,⟨_,_,rfl,rfl,rfl,rfl⟩,⟨_,_,rfl,rfl,rfl,rfl⟩,⟨_,_,rfl,rfl,rfl,rfl⟩,trivial⟩,by rw [hk]; decide⟩⟩
    ·
     exact ⟨by simp; omega,by omega⟩
    · omega
   have c14_ := c14
   try simp only [sB] at c14
   refine w_exit ?_
   refine q_then_exit ?_
   refine q_then_exit ?_
   refine q_block_exit ?_
   refine q_block ?_
   refine q_then ?_
   refine w_seq ?_
   refine w_R ?_
   refine qo hnt rfl (s_load_ptr tab_46 rfl rfl rfl (Nat.le_of_ble_eq_true rfl) ?_)
   refine qo hnt rfl (s_store_ptr tab_46 rfl rfl rfl rfl rfl (Nat.le_of_ble_eq_true rfl) ?_)
   refine r_set [(2,PV.ptr 3 0)] [(3,.obj [pI e1,pI (tNext L (tStep L a 12) 70),pI (tNext L (tStep L (tStep L a 12) 70) 20),pI (tNext L (tStep L (tStep L (tStep L a 12) 70) 20) 40),pI 0,pNil,PV.ref 2 0 none,p16 0,p16 0]),(0,.obj [pS 1 false encI L,pN ap]),(1,.obj [pI e1,pI (tNext L (tStep L a 12) 70),pI (tNext L (tStep L (tStep L a 12) 70) 20),pI (tNext L (tStep L (tStep L (tStep L a 12) 70) 20) 40),pI 0,pNil,PV.ref 2 0 none,p16 0,p16 0]),(2,oB true 1 enc16 os)] 4 ⟨rfl,trivial⟩ rfl rfl ?_
   refine r_end ?_
   refine q_then ?_
   refine w_frzC (n := 3) (j := 6) rfl rfl rfl rfl ?_
   refine w_leO (n := 3) (ds := [pI e1,pI (tNext L (tStep L a 12) 70),pI (tNext L (tStep L (tStep L a 12) 70) 20),pI (tNext L (tStep L (tStep L (tStep L a 12) 70) 20) 40),pI 0,pS 1 false encBo [],pS 1 false enc16 os,p16 0,p16 0]) rfl ⟨le_refl _,le_refl _,le_refl _,le_refl _,le_refl _,le_nilS 1 false,le_refl _,le_refl _,le_refl _,trivial⟩ ?_
   refine w_ret ?_
   have hex : rightR (⟨e1,tNext L (tStep L a 12) 70,tNext L (tStep L (tStep L a 12) 70) 20,tNext L (tStep L (tStep L (tStep L a 12) 70) 20) 40,0,[],os,0,0⟩ : TRequest) = 0 ∧ (⟨e1,tNext L (tStep L a 12) 70,tNext L (tStep L (tStep L a 12) 70) 20,tNext L (tStep L (tStep L (tStep L a 12) 70) 20) 40,0,[],os,0,0⟩ : TRequest).bits.length ≤ 25 ∧ (⟨e1,tNext L (tStep L a 12) 70,tNext L (tStep L (tStep L a 12) 70) 20,tNext L (tStep L (tStep L (tStep L a 12) 70) 20) 40,0,[],os,0,0⟩ : TRequest).vals.length ≤ 25 ∧ 0 ≤ (⟨e1,tNext L (tStep L a 12) 70,tNext L (tStep L (tStep L a 12) 70) 20,tNext L (tStep L (tStep L (tStep L a 12) 70) 20) 40,0,[],os,0,0⟩ : TRequest).count ∧ (⟨e1,tNext L (tStep L a 12) 70,tNext L (tStep L (tStep L a 12) 70) 20,tNext L (tStep L (tStep L (tStep L a 12) 70) 20) 40,0,[],os,0,0⟩ : TRequest).count ≤ 25 := by
     refine ⟨(shapeR_iff (q := _) hfn).2 ?_,by simp; try omega,by simp; try omega,by simp; try omega,by simp; try omega⟩
     constructor
     case bits => simp only; (rw [if_neg (by omega),if_neg (by omega)]; rfl)
     case vals => simp only; (rw [if_neg (by omega),if_neg (by omega),if_pos (by omega)]; omega)
     all_goals first|(intro _; rfl)|(intro _; exact ⟨rfl,rfl⟩)|(simp only; omega)
   exact fin_names (nx1 := 1) (H1 := [(0,.obj [pS 1 false encI L,pN ap])]) [(0,0)] (ret_cell tab_46 (by decide) rfl rfl (Nat.le_of_ble_eq_true rfl) rfl ret_nil) rfl (by decide) ⟨⟨_,_,rfl,rfl,rfl,rfl⟩,trivial⟩ (by decide) rfl ⟨((⟨e1,tNext L (tStep L a 12) 70,tNext L (tStep L (tStep L a 12) 70) 20,tNext L (tStep L (tStep L (tStep L a 12) 70) 20) 40,0,[],os,0,0⟩ : TRequest)),(ap),hex,rfl,rfl,rfl⟩
 have c13_ := c13
 try simp only [sB] at c13
 refine w_skip ?_
 refine q_block ?_
 refine q_then ?_
 refine w_seq ?_
 refine w_R ?_
 refine qo hnt rfl (s_load_ptr tab_46 rfl rfl rfl (Nat.le_of_ble_eq_true rfl) ?_)
 refine qo hnt rfl (s_store_ptr tab_46 rfl rfl rfl rfl rfl (Nat.le_of_ble_eq_true rfl) ?_)
 refine r_set [(2,PV.ptr 1 0)] [(1,.obj [pI e1,pI 0,pI 0,pI 0,pI 0,pNil,pNil,p16 0,p16 0]),(0,.obj [pS 1 false encI L,pN (tStep L (tStep L a 12) 70)]),(3,.obj [pI e1,pI 0,pI 0,pI 0,pI 0,pNil,pNil,p16 0,p16 0]),(2,oB true 1 encI fnsL)] 4 ⟨rfl,trivial⟩ rfl rfl ?_
 refine r_end ?_
 refine q_then ?_
 refine w_leO (n := 1) (ds := [pI e1,pI 0,pI 0,pI 0,pI 0,pS 1 false encBo [],pS 1 false enc16 [],p16 0,p16 0]) rfl ⟨le_refl _,le_refl _,le_refl _,le_refl _,le_refl _,le_nilS 1 false,le_nilS 1 false,le_refl _,le_refl _,trivial⟩ ?_
 refine w_ret ?_
 have hex : rightR (⟨e1,0,0,0,0,[],[],0,0⟩ : TRequest) = 0 ∧ (⟨e1,0,0,0,0,[],[],0,0⟩ : TRequest).bits.length ≤ 25 ∧ (⟨e1,0,0,0,0,[],[],0,0⟩ : TRequest).vals.length ≤ 25 ∧ 0 ≤ (⟨e1,0,0,0,0,[],[],0,0⟩ : TRequest).count ∧ (⟨e1,0,0,0,0,[],[],0,0⟩ : TRequest).count ≤ 25 := by
   refine ⟨(shapeR_iff (q := _) hfn).2 ?_,by simp; try omega,by simp; try omega,by simp; try omega,by simp; try omega⟩
   constructor
   case bits => simp only; (rw [if_neg (by omega),if_neg (by omega)]; rfl)
   case vals => simp only; (rw [if_neg (by omega),if_neg (by omega),if_neg (by omega)]; rfl)
   all_goals first|(intro _; rfl)|(intro _; exact ⟨rfl,rfl⟩)|(simp only; omega)
 exact fin_names (nx1 := 1) (H1 := [(0,.obj [pS 1 false encI L,pN (tStep L (tStep L a 12) 70)])]) [(0,0)] (ret_cell tab_46 (by decide) rfl rfl (Nat.le_of_ble_eq_true rfl) rfl ret_nil) rfl (by decide) ⟨⟨_,_,rfl,rfl,rfl,rfl⟩,trivial⟩ (by decide) rfl ⟨((⟨e1,0,0,0,0,[],[],0,0⟩ : TRequest)),(tStep L (tStep L a 12) 70),hex,rfl,rfl,rfl⟩
end Go.Proofs.Ytljkbpgcglomfaa
set_option linter.unusedVariables false
namespace Go.Proofs.Ytljkbpgcglomfaa
open Go Go.Proofs.Ytljkbpgcglomfaa.Pv
def tBytes (L : List Int) (a : Nat) (m : Int) : List UInt8 × Nat := tRow u8I 256 L (tStep L a (m + 1)) (tNext L a (m + 1)).toNat
theorem tBytes_len (L : List Int) (a : Nat) {m : Int} (h : 0 ≤ m) : ((tBytes L a m).1.length : Int) ≤ m := by
  have := tNext_lt L a (n := m + 1) (by omega)
  unfold tBytes; rw [tRow_length]; omega
theorem tRow_1 {α : Type} (f : Int → α) (n : Int) (L : List Int) (a k : Nat) {os : List α} {ap : Nat} (h : os = (tRow f n L a k).1) (h2 : ap = (tRow f n L a k).2) : os ++ [f (tNext L ap n)] = (tRow f n L a (k + 1)).1 := by subst h; subst h2; rfl
theorem tRow_2 {α : Type} (f : Int → α) (n : Int) (L : List Int) (a k : Nat) {ap : Nat} (h2 : ap = (tRow f n L a k).2) : tStep L ap n = (tRow f n L a (k + 1)).2 := by subst h2; rfl
end Go.Proofs.Ytljkbpgcglomfaa
set_option linter.unusedVariables false
set_option linter.unusedSimpArgs false
set_option maxRecDepth 10000
set_option maxHeartbeats 1000000
namespace Go.Proofs.Ytljkbpgcglomfaa
open Go Go.Proofs.Ytljkbpgcglomfaa.Pv
theorem w_burgagekeep_Tape_Bytes_d (L : List Int) (cl_L : Bool) (a : Nat) (m : Int) (hL : L.length ≤ 70000000000000) (hm : 0 ≤ m ∧ m ≤ 1000) :
    T Try.prog 54 [PV.ptr 0 0,pI m] 1 [(0,.obj [pS 1 cl_L encI L,pN a])] (Ret (pS 1 false enc8 ((tBytes L a m).1)) 1 [(0,.obj [pS 1 false encI L,pN ((tBytes L a m).2)])]) := by
 refine t_fun tabOk (n := 22) (rs := [.tmp 4]) Try.func54 rfl rfl rfl rfl (Nat.le_of_ble_eq_true rfl) ?_
 intro c hnt hk
 have h0n := tNext_lt L a (n := m + 1) (by omega)
 refine w_seq ?_
 refine w_R ?_
 refine qa hnt rfl rfl ?_
 refine r_end ?_
 refine q_then ?_
 refine w_seq ?_
 refine w_R ?_
 refine qa hnt rfl rfl ?_
 refine r_end ?_
 refine q_then ?_
 refine w_seq ?_
 refine w_seq ?_
 refine w_R ?_
 refine qm hnt rfl rfl ?_
 refine qm hnt rfl rfl ?_
 refine qo hnt rfl (s_addi (r := m + 1) rfl rfl rfl (by omega) ?_)
 refine qo hnt rfl (s_callX (r2 := pI (tNext L a (m + 1))) (nx1 := 1) (H2 := [(0,.obj [pS 1 cl_L encI L,pN a])]) (H3 := [(0,.obj [pS 1 false encI L,pN (tStep L a (m + 1))])]) [0] [.obj [pS 1 cl_L encI L,pN a]] rfl rfl rfl (handed_of (by decide) ⟨rfl,trivial⟩) rfl rfl rfl rfl rfl rfl (w_burgagekeep_Tape_Next L cl_L a (m + 1) (by omega) (by omega)) rfl (dist_of rfl) rfl rfl rfl rfl ?_)
 refine qa hnt rfl rfl ?_
 refine r_set [(0,PV.ptr 0 0),(5,pNil),(6,pI (tNext L a (m + 1)))] [(0,.obj [pS 1 false encI L,pN (tStep L a (m + 1))])] 1 ⟨rfl,rfl,rfl,trivial⟩ rfl rfl ?_
 refine r_end ?_
 refine q_then ?_
 refine w_block ?_
 refine w_adopt (s := 5) (sz := 1) rfl ?_
 refine loop3 (fun (ap : Nat) (os : List UInt8) (kk : Int) => ∃ j : Nat,(j : Int) + kk = tNext L a (m + 1) ∧ 0 ≤ kk ∧ os = (tRow u8I 256 L (tStep L a (m + 1)) j).1 ∧ ap = (tRow u8I 256 L (tStep L a (m + 1)) j).2) (fun (ap : Nat) (os : List UInt8) (kk : Int) => [(0,PV.ptr 0 0),(5,PV.ref 1 0 none),(6,pI kk)]) 2 (fun (ap : Nat) (os : List UInt8) (kk : Int) => [(0,.obj [pS 1 false encI L,pN ap]),(1,oB true 1 enc8 os)]) (fun (ap : Nat) (os : List UInt8) (kk : Int) => kk.toNat) (tStep L a (m + 1)) (([] : List UInt8)) (tNext L a (m + 1)) ?_ ⟨[(0,0),(1,1)],by rw [hk]; decide,⟨⟨_,rfl,rfl,rfl⟩,⟨_,rfl,rfl,rfl⟩,⟨_,rfl,rfl,rfl⟩,trivial⟩,⟨⟨_,_,rfl,rfl,rfl,rfl⟩,⟨_,_,rfl,rfl,rfl,rfl⟩,trivial⟩,by rw [hk]; decide⟩ ?_
 · exact ⟨0,by omega,by omega,rfl,rfl⟩
 ·
  intro ap os kk hI
  obtain ⟨j,hjk,hk0,hos,hap⟩ := hI
  have hol : os.length = j := by rw [hos,tRow_length]
  refine w_seq ?_
  refine w_seq ?_
  refine w_R ?_
  refine qm hnt rfl rfl ?_
  refine qo hnt rfl (s_gtr rfl rfl ?_)
  refine r_end ?_
  refine q_then ?_
  refine w_if rfl (fun c1 => ?_) (fun c1 => ?_)
  ·
   have c1_ := c1
   try simp only [sB] at c1
   refine w_skip ?_
   refine q_then ?_
   refine w_seq ?_
   refine w_block ?_
   refine w_R ?_
   refine qm hnt rfl rfl ?_
   refine qm hnt rfl rfl ?_
   refine qo hnt rfl (s_callX (r2 := pI (tNext L ap 256)) (nx1 := 2) (H2 := [(0,.obj [pS 1 false encI L,pN ap]),(1,oB true 1 enc8 os)]) (H3 := [(0,.obj [pS 1 false encI L,pN (tStep L ap 256)]),(1,oB true 1 enc8 os)]) [0] [.obj [pS 1 false encI L,pN ap]] rfl rfl rfl (handed_of (by decide) ⟨rfl,trivial⟩) rfl rfl rfl rfl rfl rfl (w_burgagekeep_Tape_Next L false ap 256 (by omega) (by omega)) rfl (dist_of rfl) rfl rfl rfl rfl ?_)
   refine qo hnt rfl (s_cv8 tab_3 tab_5 rfl rfl rfl ?_)
   refine qo hnt rfl (s_mkM (f := enc8) [u8I (tNext L ap 256)] tab_51 rfl tab_5 ⟨rfl,by decide⟩ (by decide) rfl rfl rfl rfl ?_)
   refine qo hnt rfl (s_appR0 (f := enc8) (l := os) (xs := [u8I (tNext L ap 256)]) tab_51 rfl tab_5 ⟨rfl,by decide,by decide⟩ (srcM tab_51 rfl (hM_ref0 (f := enc8) rfl rfl)) rfl rfl (by (simp; omega)) ?_)
   refine qa hnt rfl rfl ?_
   refine r_set [(0,PV.ptr 0 0),(5,PV.ref 3 0 none),(6,pI kk)] [(3,oB true 1 enc8 (os ++ [u8I (tNext L ap 256)])),(2,oB true 1 enc8 [u8I (tNext L ap 256)]),(0,.obj [pS 1 false encI L,pN (tStep L ap 256)])] 4 ⟨rfl,rfl,rfl,trivial⟩ rfl rfl ?_
   refine r_end ?_
   refine q_block ?_
   refine q_then ?_
   refine w_R ?_
   refine qm hnt rfl rfl ?_
   refine qo hnt rfl (s_subi (r := kk - 1) rfl rfl rfl (by omega) ?_)
   refine qa hnt rfl rfl ?_
   refine r_end ?_
   refine q_then ?_
   refine ⟨(tStep L ap 256),(os ++ [u8I (tNext L ap 256)]),(kk - 1), ?_, ?_,⟨[(0,0),(1,3)],by rw [hk]; decide,⟨⟨_,rfl,rfl,rfl⟩,⟨_,rfl,rfl,rfl⟩,⟨_,rfl,rfl,rfl⟩,trivial⟩,⟨⟨_,_,rfl,rfl,rfl,rfl⟩,⟨_,_,rfl,rfl,rfl,rfl⟩,trivial⟩,by rw [hk]; decide⟩⟩
   ·
    exact ⟨j + 1,by omega,by omega,tRow_1 u8I 256 L _ j hos hap,tRow_2 u8I 256 L _ j hap⟩
   · omega
  have c1_ := c1
  try simp only [sB] at c1
  have hje : (tNext L a (m + 1)).toNat = j := by omega
  refine w_exit ?_
  refine q_then_exit ?_
  refine q_then_exit ?_
  refine q_block_exit ?_
  refine q_then ?_
  refine w_seq ?_
  refine w_R ?_
  refine qm hnt rfl rfl ?_
  refine qa hnt rfl rfl ?_
  refine r_end ?_
  refine q_then ?_
  refine w_frzM (s := 4) (f := enc8) rfl rfl view_0 ?_
  refine w_le (s := 4) (y := pS 1 false enc8 ((tBytes L a m).1)) rfl (le_of_eq (congrArg (fun z => pS 1 false enc8 z) (show os = ((tBytes L a m).1) by (unfold tBytes; rw [hje,← hos]; done)))) ?_
  refine w_leO (n := 0) (ds := [pS 1 false encI L,pN ((tBytes L a m).2)]) rfl ⟨le_refl _,le_of_eq (congrArg (fun z : Nat => pN z) (show ap = ((tBytes L a m).2) by (unfold tBytes; rw [hje,← hap]; done))),trivial⟩ ?_
  refine w_ret ?_
  exact fin_names (nx1 := 1) (H1 := [(0,.obj [pS 1 false encI L,pN ((tBytes L a m).2)])]) [(0,0)] (ret_tmp rfl ret_nil) rfl (by decide) ⟨⟨_,_,rfl,rfl,rfl,rfl⟩,trivial⟩ (by decide) rfl ⟨rfl,rfl,rfl⟩
end Go.Proofs.Ytljkbpgcglomfaa
set_option linter.unusedVariables false
namespace Go.Proofs.Ytljkbpgcglomfaa
open Go Go.Proofs.Ytljkbpgcglomfaa.Pv
section
variable {r : TReply} {what n : Int}
end
def madeR (L : List Int) (q : TRequest) : TReply :=
  if tNext L 0 5 = 0 then refuseR q.fn (1 + tNext L (tStep L 0 5) 11)
  else if q.fn = 1 ∨ q.fn = 2 then ⟨q.fn,0,0,0,0,(tRow isOne 2 L (tStep L 0 5) q.count.toNat).1,[],0,0,[]⟩
  else if q.fn = 3 ∨ q.fn = 4 ∨ q.fn = 23 then ⟨q.fn,0,0,0,0,[],(tRow u16I 65536 L (tStep L 0 5) q.count.toNat).1,0,0,[]⟩
  else if q.fn = 15 ∨ q.fn = 16 then ⟨q.fn,0,q.at_,q.count,0,[],[],0,0,[]⟩
  else if q.fn = 17 then ⟨q.fn,0,0,0,0,[],[],0,0,(tBytes L (tStep L 0 5) 6).1⟩
  else ⟨q.fn,0,q.at_,0,q.sub,q.bits,q.vals,q.and_,q.or_,[]⟩
section
variable {L : List Int} {q : TRequest}
theorem madeR_no (h : tNext L 0 5 = 0) : madeR L q = refuseR q.fn (1 + tNext L (tStep L 0 5) 11) := by unfold madeR; rw [if_pos h]
variable (h : ¬ tNext L 0 5 = 0)
include h
theorem madeR_1 (k : q.fn = 1 ∨ q.fn = 2) {os : List Bool} {i : Nat} (ho : os = (tRow isOne 2 L (tStep L 0 5) i).1) (hi : q.count.toNat = i) : madeR L q = ⟨q.fn,0,0,0,0,os,[],0,0,[]⟩ := by subst ho; subst hi; unfold madeR; rw [if_neg h,if_pos k]
theorem madeR_3 (k : q.fn = 3 ∨ q.fn = 4 ∨ q.fn = 23) {os : List UInt16} {i : Nat} (ho : os = (tRow u16I 65536 L (tStep L 0 5) i).1) (hi : q.count.toNat = i) : madeR L q = ⟨q.fn,0,0,0,0,[],os,0,0,[]⟩ := by subst ho; subst hi; unfold madeR; rw [if_neg h,if_neg (by omega),if_pos k]
theorem madeR_15 (k : q.fn = 15 ∨ q.fn = 16) : madeR L q = ⟨q.fn,0,q.at_,q.count,0,[],[],0,0,[]⟩ := by unfold madeR; rw [if_neg h,if_neg (by omega),if_neg (by omega),if_pos k]
theorem madeR_17 (k : q.fn = 17) : madeR L q = ⟨q.fn,0,0,0,0,[],[],0,0,(tBytes L (tStep L 0 5) 6).1⟩ := by unfold madeR; rw [if_neg h,if_neg (by omega),if_neg (by omega),if_neg (by omega),if_pos k]
theorem madeR_5 (k : ¬ (q.fn = 1 ∨ q.fn = 2 ∨ q.fn = 3 ∨ q.fn = 4 ∨ q.fn = 23 ∨ q.fn = 15 ∨ q.fn = 16 ∨ q.fn = 17)) : madeR L q = ⟨q.fn,0,q.at_,0,q.sub,q.bits,q.vals,q.and_,q.or_,[]⟩ := by unfold madeR; rw [if_neg h,if_neg (by omega),if_neg (by omega),if_neg (by omega),if_neg (by omega)]
end
theorem madeR_ok (L : List Int) {q : TRequest} (hr0 : rightR q = 0) (hb : q.bits.length ≤ 25) (hv : q.vals.length ≤ 25) (hc0 : 0 ≤ q.count) (hc : q.count ≤ 25) :
    goodR (madeR L q) = 0 ∧ countOk (madeR L q) q ∧ (madeR L q).fn = q.fn ∧ (madeR L q).bits.length ≤ 25 ∧ (madeR L q).vals.length ≤ 25 ∧ (madeR L q).data.length ≤ 25 := by
  by_cases h : tNext L 0 5 = 0
  · rw [madeR_no h]
    have h11 := tNext_lt L (tStep L 0 5) (n := 11) (by decide)
    have h9 := made_no hr0 (c := 1 + tNext L (tStep L 0 5) 11) (by omega)
    exact ⟨h9.1,h9.2.1,h9.2.2,by simp [refuseR],by simp [refuseR],by simp [refuseR]⟩
  by_cases k1 : q.fn = 1 ∨ q.fn = 2
  · have hl := tRow_length isOne 2 L (tStep L 0 5) q.count.toNat
    rw [madeR_1 h k1 rfl rfl]
    have h9 := made_1 hr0 (os := (tRow isOne 2 L (tStep L 0 5) q.count.toNat).1) k1 (by omega) (by omega)
    exact ⟨h9.1,h9.2,rfl,by simp only; omega,by simp only [List.length_nil]; omega,by simp only [List.length_nil]; omega⟩
  by_cases k3 : q.fn = 3 ∨ q.fn = 4 ∨ q.fn = 23
  · have hl := tRow_length u16I 65536 L (tStep L 0 5) q.count.toNat
    rw [madeR_3 h k3 rfl rfl]
    have h9 := made_3 hr0 (os := (tRow u16I 65536 L (tStep L 0 5) q.count.toNat).1) k3 (by omega) (by omega)
    exact ⟨h9.1,h9.2,rfl,by simp only [List.length_nil]; omega,by simp only; omega,by simp only [List.length_nil]; omega⟩
  by_cases k15 : q.fn = 15 ∨ q.fn = 16
  · rw [madeR_15 h k15]
    have h9 := made_15 hr0 k15
    exact ⟨h9.1,h9.2,rfl,by simp only [List.length_nil]; omega,by simp only [List.length_nil]; omega,by simp only [List.length_nil]; omega⟩
  by_cases k17 : q.fn = 17
  · have hl := tBytes_len L (tStep L 0 5) (m := 6) (by decide)
    rw [madeR_17 h k17]
    have h9 := made_17 hr0 (d := (tBytes L (tStep L 0 5) 6).1) k17 (by omega)
    exact ⟨h9.1,h9.2,rfl,by simp only [List.length_nil]; omega,by simp only [List.length_nil]; omega,by simp only; omega⟩
  · rw [madeR_5 h (by omega)]
    have h9 := made_5 hr0 (by omega)
    exact ⟨h9.1,h9.2,rfl,hb,hv,by simp only [List.length_nil]; omega⟩
end Go.Proofs.Ytljkbpgcglomfaa
