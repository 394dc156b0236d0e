/- Messages come out as they went in, however their bytes are cut (MbapWhole): its head and its frame follow the kit's template for rows; printed by wip/tools/row2.py. -/
import Derived.Test.YtfbmlnajnlekbaaRows
import Derived.Test.YtfbmlnajnlekbaaPvAE
import Derived.Test.YtfbmlnajnlekbaaWMbapWhole
import Derived.WalkKit
import Derived.ProofKit
import Derived.OpenShut
import Derived.ShutString
import Derived.ChangeOld
import Derived.Below
import Derived.SizedLaws
import Derived.Carry
import Derived.WideShapes
namespace Go.Proofs.Ytfbmlnajnlekbaa.mbapWhole
open Go Go.ChangeShapes Go.WideShapes Go.ChangeAt Go.RowKit Go.Proofs.Ytfbmlnajnlekbaa Go.Proofs.Ytfbmlnajnlekbaa.Pv
open Go.ChangeMaps (open_string shut_string)
set_option linter.unusedVariables false
set_option maxHeartbeats 1000000
theorem own : ownKnob Try.prog.godebug = none := by kernel_rfl
theorem laidOut : laidOutB Try.prog = true := by kernel_rfl
set_option maxRecDepth 100000 in
theorem lifted (os : Os) (started : os.Started) (H : Type) (enc : TypeId × Value → H) :
    ReturnsInHanded {} Try.checked os 5 .any (Rows.mbapWholeSpec.pre6 enc Try.prog Try.f5 Rows.mbapWholeRow.domain false) (Rows.mbapWholeSpec.post enc Try.prog Try.f5 false true false false) := by
  refine returnsInHanded_of_change_sized (C := Try.checked) own started (by kernel_rfl) Try.func5
    (ChangeSpec.witness6 (enc := enc) (C := Try.checked) false ⟨#[], #[.slice none 0 0, .slice none 0 0], []⟩ 8 (by kernel_rfl) (by kernel_rfl) (by kernel_rfl) (by kernel_rfl)) ?_
  intro W base args ds gs before hval0 hW hcnd hsz0 _
  have hsz : (DataW.weightsEach Try.prog (Try.f5.params.toList ++ Rows.mbapWholeSpec.plain.varTypes Try.prog) (ds ++ gs)).all (· ≤ reachBytes) = true := hsz0
  have hval : ∀ (j : Nat) t v, Try.f5.params[j]? = some t → args[j]? = some v → Value.okWide Try.prog W .any base t v := hval0
  have hW' := hW
  obtain ⟨p, q, hA0, hV, rfl, hfz, hnd⟩ := hW
  have hA : DataW.TrodAll enc Try.prog W 0 (fun _ => true) true Try.f5.params.toList args.toList ds p := hA0
  rw [Try.params5] at hA hval hsz
  obtain ⟨v0, vs0, d0, ds0, p0, q0, hargs, rfl, rfl, h0, r0⟩ := trodAll_cons hA
  obtain ⟨v1, vs1, d1, ds1, p1, q1, rfl, rfl, rfl, h1, r1⟩ := trodAll_cons r0
  obtain ⟨rfl, rfl, rfl⟩ := trodAll_nil r1
  obtain rfl : args = #[v0, v1] := by cases args; simp_all
  obtain ⟨rfl, rfl⟩ := trodVars_none hV
  obtain ⟨a0, len0, cap0, rfl⟩ := okWide_slice Try.underlying23 (hval 0 23 v0 rfl rfl)
  have k0 := h0
  have lt0 : ∀ x ∈ p0, x.block < W.heap.size := by obtain ⟨m, hm⟩ := k0; exact DataW.trod_lt m _ _ _ hm
  obtain ⟨fu0, hf0⟩ := h0
  obtain ⟨l0, B0, rep0⟩ := ReadsB.arg (rdB_slice (B := fun (x : List UInt8) => (x.length * 1 ≤ 140737488351232 ∧ ∀ y27 ∈ x, True)) Try.underlying23 (rdB_slice (B := fun (x : UInt8) => True) Try.underlying27 (rdB_u8 Try.underlying5) 1 (by kernel_rfl) (by decide) (m := 1) (by kernel_rfl)) 1 (by kernel_rfl) (by decide) (m := 24) (by kernel_rfl)) hsz (j := 0) rfl rfl hf0 (fun a h => by cases h) (fun _ _ => rfl)
  obtain ⟨a1, len1, cap1, rfl⟩ := okWide_slice Try.underlying22 (hval 1 22 v1 rfl rfl)
  have k1 := h1
  have lt1 : ∀ x ∈ p1, x.block < W.heap.size := by obtain ⟨m, hm⟩ := k1; exact DataW.trod_lt m _ _ _ hm
  obtain ⟨fu1, hf1⟩ := h1
  obtain ⟨l1, B1, rep1⟩ := ReadsB.arg (rdB_slice (B := fun (x : Int) => (-9223372036854775808 ≤ x ∧ x ≤ 9223372036854775807)) Try.underlying22 (rdB_int Try.underlying3) 1 (by kernel_rfl) (by decide) (m := 8) (by kernel_rfl)) hsz (j := 1) rfl rfl hf1 (fun a h => by cases h) (fun _ _ => rfl)
  clear hA0 hval0 hsz0 hsz
  refine (T.row (w_burgagelaw6_MbapWhole l0 false l1 false (by exact B0.1) (by have := B1.1; omega)) (w := W) (vals := [.slice a0 len0 cap0, .slice a1 len1 cap1]) ⟨rep0, rep1, trivial⟩).mono fun e W' ⟨he, bel⟩ => ?_
  subst he
  exact ⟨_, rfl, _, _, _, [], _, [], hW', trodAll_mk1 (shut_bool Try.underlying4 _), (trodAll_cons_mk (Below.trod laidOut (by kernel_rfl) (of_decide_eq_true (by kernel_rfl)) k0 bel lt0) (trodAll_cons_mk (Below.trod laidOut (by kernel_rfl) (of_decide_eq_true (by kernel_rfl)) k1 bel lt1) trodAll_mk0)), rfl, bel.frame _, fun h => by cases h⟩
theorem over : Rows.mbapWholeRow.holds Try.pinned (OpenSpec.ofChange Rows.mbapWholeSpec) :=
  OpenClaim.holds_of_wide 5 Try.f5 rfl rfl rfl rfl rfl rfl rfl ⟨rfl, rfl, rfl, rfl, rfl⟩ rfl rfl rfl rfl rfl (by kernel_rfl) Try.func5 (by kernel_rfl)
    (of_decide_eq_true (by kernel_rfl)) (by unfold Func.isWrapper; first | (rw [if_pos (by decide +kernel)]; kernel_rfl) | (rw [if_neg (by decide +kernel)]; exact ⟨rfl, rfl⟩))
    (fun os started H enc _ => lifted os started H enc)
theorem proved : Rows.MbapWholeSaid := over
end Go.Proofs.Ytfbmlnajnlekbaa.mbapWhole
namespace Go.Proofs.Ytfbmlnajnlekbaa
/-- The row, under a short name, for the claim. -/
theorem mbapWhole_holds : Rows.MbapWholeSaid := mbapWhole.proved
#print axioms mbapWhole_holds
end Go.Proofs.Ytfbmlnajnlekbaa
