/- The row of the law CrcMixes: its head and its frame follow the kit's template for rows; printed by wip/tools/row.py. -/
import Derived.Test.YteedhlgdbankiaaRows
import Derived.Test.YteedhlgdbankiaaPvAA
import Derived.Test.YteedhlgdbankiaaWalkD
import Derived.WalkKit
import Derived.ProofKit
import Derived.OpenShut
import Derived.ShutString
import Derived.ChangeOld
import Derived.Below
import Derived.SizedLaws
import Derived.Carry
namespace Go.Proofs.Yteedhlgdbankiaa.crcMixes
open Go Go.ChangeShapes Go.WideShapes Go.ChangeAt Go.RowKit Go.Proofs.Yteedhlgdbankiaa.Pv
open Go.ChangeMaps (open_string shut_string)
set_option linter.unusedVariables false
theorem own : ownKnob Try.prog.godebug = none := by kernel_rfl
theorem laidOut : laidOutB Try.prog = true := by kernel_rfl
set_option maxRecDepth 100000 in
theorem lifted (os : Os) (started : os.Started) (H : Type) (enc : TypeId × Value → H) :
    ReturnsInHanded {} Try.checked os 10 .any (Rows.crcMixesSpec.pre6 enc Try.prog Try.f10 Rows.crcMixesRow.domain false) (Rows.crcMixesSpec.post enc Try.prog Try.f10 false true false false) := by
  refine returnsInHanded_of_change_sized (C := Try.checked) own started (by kernel_rfl) Try.func10
    (ChangeSpec.witness6 (enc := enc) (C := Try.checked) false ⟨#[], #[.slice none 0 0, .slice none 0 0], []⟩ 8 (by kernel_rfl) (by kernel_rfl) (by kernel_rfl) (by kernel_rfl)) ?_
  intro W base args ds gs before hval0 hW hcnd hsz0 _
  have hsz : (DataW.weightsEach Try.prog (Try.f10.params.toList ++ Rows.crcMixesSpec.plain.varTypes Try.prog) (ds ++ gs)).all (· ≤ reachBytes) = true := hsz0
  have hval : ∀ (j : Nat) t v, Try.f10.params[j]? = some t → args[j]? = some v → Value.okWide Try.prog W .any base t v := hval0
  have hW' := hW
  obtain ⟨p, q, hA0, hV, rfl, hfz, hnd⟩ := hW
  have hA : DataW.TrodAll enc Try.prog W 0 (fun _ => true) true Try.f10.params.toList args.toList ds p := hA0
  rw [Try.params10] at hA hval hsz
  obtain ⟨v0, vs0, d0, ds0, p0, q0, hargs, rfl, rfl, h0, r0⟩ := trodAll_cons hA
  obtain ⟨v1, vs1, d1, ds1, p1, q1, rfl, rfl, rfl, h1, r1⟩ := trodAll_cons r0
  obtain ⟨rfl, rfl, rfl⟩ := trodAll_nil r1
  obtain rfl : args = #[v0, v1] := by cases args; simp_all
  obtain ⟨rfl, rfl⟩ := trodVars_none hV
  obtain ⟨a0, len0, cap0, rfl⟩ := okWide_slice Try.underlying23 (hval 0 23 v0 rfl rfl)
  have k0 := h0
  have lt0 : ∀ x ∈ p0, x.block < W.heap.size := by obtain ⟨m, hm⟩ := k0; exact DataW.trod_lt m _ _ _ hm
  obtain ⟨fu0, hf0⟩ := h0
  obtain ⟨l0, R0, _, z0⟩ := (reads_bytes Try.underlying23 Try.underlying5 (by kernel_rfl)) _ _ _ _ _ _ _ _ _ hf0
  have e0 := (z0 0 _ _ rfl rfl).1
  have y0 := sized_l hsz (j := 0) (t := 23) rfl rfl Try.underlying23 R0
  rw [show Try.prog.bytesOf 5 = 1 by kernel_rfl] at y0
  obtain ⟨a1, len1, cap1, rfl⟩ := okWide_slice Try.underlying23 (hval 1 23 v1 rfl rfl)
  have k1 := h1
  have lt1 : ∀ x ∈ p1, x.block < W.heap.size := by obtain ⟨m, hm⟩ := k1; exact DataW.trod_lt m _ _ _ hm
  obtain ⟨fu1, hf1⟩ := h1
  obtain ⟨l1, R1, _, z1⟩ := (reads_bytes Try.underlying23 Try.underlying5 (by kernel_rfl)) _ _ _ _ _ _ _ _ _ hf1
  have e1 := (z1 0 _ _ rfl rfl).1
  have y1 := sized_l hsz (j := 1) (t := 23) rfl rfl Try.underlying23 R1
  rw [show Try.prog.bytesOf 5 = 1 by kernel_rfl] at y1
  clear hA0 hval0 hsz0 hsz
  refine (T.row (w10 false false l0 l1 (by omega) (by omega)) (w := W) (vals := [.slice a0 len0 cap0, .slice a1 len1 cap1]) ⟨.f e0, .f e1, trivial⟩).mono fun e W' ⟨he, bel⟩ => ?_
  subst he
  exact ⟨_, rfl, _, _, _, [], _, [], hW', trodAll_mk1 (shut_bool Try.underlying4 _), (trodAll_cons_mk (Below.trod laidOut (by kernel_rfl) (of_decide_eq_true (by kernel_rfl)) k0 bel lt0) (trodAll_cons_mk (Below.trod laidOut (by kernel_rfl) (of_decide_eq_true (by kernel_rfl)) k1 bel lt1) trodAll_mk0)), rfl, bel.frame _, fun h => by cases h⟩
theorem over : Rows.crcMixesRow.holds Try.pinned (OpenSpec.ofChange Rows.crcMixesSpec) :=
  OpenClaim.holds_of_wide 10 Try.f10 rfl rfl rfl rfl rfl rfl rfl ⟨rfl, rfl, rfl, rfl, rfl⟩ rfl rfl rfl rfl rfl (by kernel_rfl) Try.func10 (by kernel_rfl)
    (of_decide_eq_true (by kernel_rfl)) (by unfold Func.isWrapper; first | (rw [if_pos (by decide +kernel)]; kernel_rfl) | (rw [if_neg (by decide +kernel)]; exact ⟨rfl, rfl⟩))
    (fun os started H enc _ => lifted os started H enc)
theorem proved : Rows.CrcMixesSaid := over
end Go.Proofs.Yteedhlgdbankiaa.crcMixes
namespace Go.Proofs.Yteedhlgdbankiaa
/-- The row, under a short name, for the claim. -/
theorem crcMixes_holds : Rows.CrcMixesSaid := crcMixes.proved
#print axioms crcMixes_holds
end Go.Proofs.Yteedhlgdbankiaa
