/- Cells are read and set as the document says, for any calls (StorePlays): its head and its frame follow the kit's template for rows; printed by wip/tools/row2.py. -/
import Derived.Test.YtahdbjciimppeaaRows
import Derived.Test.YtahdbjciimppeaaQStorePlays3
import Derived.WalkKit
import Derived.ProofKit
import Derived.OpenShut
import Derived.ShutString
import Derived.ChangeOld
import Derived.Below
import Derived.SizedLaws
import Derived.Carry
import Derived.WideShapes
namespace Go.Proofs.Ytahdbjciimppeaa.storePlays
open Go Go.ChangeShapes Go.WideShapes Go.ChangeAt Go.RowKit Go.Proofs.Ytahdbjciimppeaa Go.Proofs.Ytahdbjciimppeaa.Pv
open Go.ChangeMaps (open_string shut_string)
set_option linter.unusedVariables false
set_option maxHeartbeats 1000000
theorem own : ownKnob Try.prog.godebug = none := by kernel_rfl
theorem laidOut : laidOutB Try.prog = true := by kernel_rfl
set_option maxRecDepth 100000 in
theorem lifted (os : Os) (started : os.Started) (H : Type) (enc : TypeId × Value → H) :
    ReturnsInHanded {} Try.checked os 4 .any (Rows.storePlaysSpec.pre6 enc Try.prog Try.f4 Rows.storePlaysRow.domain false) (Rows.storePlaysSpec.post enc Try.prog Try.f4 false true false false) := by
  refine returnsInHanded_of_change_sized (C := Try.checked) own started (by kernel_rfl) Try.func4
    (ChangeSpec.witness6 (enc := enc) (C := Try.checked) false ⟨#[], #[.int .i64 0, .slice none 0 0], []⟩ 8 (by kernel_rfl) (by kernel_rfl) (by kernel_rfl) (by kernel_rfl)) ?_
  intro W base args ds gs before hval0 hW hcnd hsz0 _
  have hsz : (DataW.weightsEach Try.prog (Try.f4.params.toList ++ Rows.storePlaysSpec.plain.varTypes Try.prog) (ds ++ gs)).all (· ≤ reachBytes) = true := hsz0
  have hval : ∀ (j : Nat) t v, Try.f4.params[j]? = some t → args[j]? = some v → Value.okWide Try.prog W .any base t v := hval0
  have hW' := hW
  obtain ⟨p, q, hA0, hV, rfl, hfz, hnd⟩ := hW
  have hA : DataW.TrodAll enc Try.prog W 0 (fun _ => true) true Try.f4.params.toList args.toList ds p := hA0
  rw [Try.params4] at hA hval hsz
  obtain ⟨v0, vs0, d0, ds0, p0, q0, hargs, rfl, rfl, h0, r0⟩ := trodAll_cons hA
  obtain ⟨v1, vs1, d1, ds1, p1, q1, rfl, rfl, rfl, h1, r1⟩ := trodAll_cons r0
  obtain ⟨rfl, rfl, rfl⟩ := trodAll_nil r1
  obtain rfl : args = #[v0, v1] := by cases args; simp_all
  obtain ⟨rfl, rfl⟩ := trodVars_none hV
  obtain ⟨a0, rfl, rfl, rfl, w0⟩ := open_int Try.underlying3 (hval 0 3 v0 rfl rfl) h0
  have x0 := wf_i64 w0
  obtain ⟨a1, len1, cap1, rfl⟩ := okWide_slice Try.underlying22 (hval 1 22 v1 rfl rfl)
  have k1 := h1
  have lt1 : ∀ x ∈ p1, x.block < W.heap.size := by obtain ⟨m, hm⟩ := k1; exact DataW.trod_lt m _ _ _ hm
  obtain ⟨fu1, hf1⟩ := h1
  obtain ⟨l1, B1, rep1⟩ := ReadsB.arg (rdB_slice (B := fun (x : TAsk) => ((-9223372036854775808 ≤ x.kind ∧ x.kind ≤ 9223372036854775807) ∧ ((-9223372036854775808 ≤ x.space ∧ x.space ≤ 9223372036854775807) ∧ ((-9223372036854775808 ≤ x.at_ ∧ x.at_ ≤ 9223372036854775807) ∧ ((-9223372036854775808 ≤ x.n ∧ x.n ≤ 9223372036854775807) ∧ ((x.b.length * 1 ≤ 140737488351232 ∧ ∀ y23 ∈ x.b, True) ∧ ((x.v.length * 2 ≤ 140737488351232 ∧ ∀ y25 ∈ x.v, True) ∧ True))))))) Try.underlying22 (ReadsB.map (g := eAsk) (B' := fun (x : TAsk) => ((-9223372036854775808 ≤ x.kind ∧ x.kind ≤ 9223372036854775807) ∧ ((-9223372036854775808 ≤ x.space ∧ x.space ≤ 9223372036854775807) ∧ ((-9223372036854775808 ≤ x.at_ ∧ x.at_ ≤ 9223372036854775807) ∧ ((-9223372036854775808 ≤ x.n ∧ x.n ≤ 9223372036854775807) ∧ ((x.b.length * 1 ≤ 140737488351232 ∧ ∀ y23 ∈ x.b, True) ∧ ((x.v.length * 2 ≤ 140737488351232 ∧ ∀ y25 ∈ x.v, True) ∧ True))))))) (rdB_struct Try.underlying27 rfl (by kernel_rfl) (rdL_cons (t := 3) (B := fun (x : Int) => (-9223372036854775808 ≤ x ∧ x ≤ 9223372036854775807)) 1 (rdB_int Try.underlying3) (by kernel_rfl) (rdL_cons (t := 3) (B := fun (x : Int) => (-9223372036854775808 ≤ x ∧ x ≤ 9223372036854775807)) 1 (rdB_int Try.underlying3) (by kernel_rfl) (rdL_cons (t := 3) (B := fun (x : Int) => (-9223372036854775808 ≤ x ∧ x ≤ 9223372036854775807)) 1 (rdB_int Try.underlying3) (by kernel_rfl) (rdL_cons (t := 3) (B := fun (x : Int) => (-9223372036854775808 ≤ x ∧ x ≤ 9223372036854775807)) 1 (rdB_int Try.underlying3) (by kernel_rfl) (rdL_cons (t := 23) (B := fun (x : List Bool) => (x.length * 1 ≤ 140737488351232 ∧ ∀ y23 ∈ x, True)) 1 (rdB_slice (B := fun (x : Bool) => True) Try.underlying23 (rdB_bool Try.underlying4) 1 (by kernel_rfl) (by decide) (m := 1) (by kernel_rfl)) (by kernel_rfl) (rdL_cons (t := 25) (B := fun (x : List UInt16) => (x.length * 2 ≤ 140737488351232 ∧ ∀ y25 ∈ x, True)) 1 (rdB_slice (B := fun (x : UInt16) => True) Try.underlying25 (rdB_u16 Try.underlying24) 1 (by kernel_rfl) (by decide) (m := 2) (by kernel_rfl)) (by kernel_rfl) rdL_nil))))))) (fun p => (⟨p.1, p.2.1, p.2.2.1, p.2.2.2.1, p.2.2.2.2.1, p.2.2.2.2.2.1⟩ : TAsk)) (fun _ => rfl) (fun _ h => h)) 6 (by kernel_rfl) (by decide) (m := 80) (by kernel_rfl)) hsz (j := 1) rfl rfl hf1 (fun a h => by cases h) (fun _ _ => rfl)
  clear hA0 hval0 hsz0 hsz
  refine (T.row (w_burgagelaw8_StorePlays a0 l1 false (by have := B1.1; omega) (by intro a ha; have := B1.2 a ha; omega)) (w := W) (vals := [.int .i64 a0, .slice a1 len1 cap1]) ⟨.f (.v _), rep1, trivial⟩).mono fun e W' ⟨he, bel⟩ => ?_
  subst he
  exact ⟨_, rfl, _, _, _, [], _, [], hW', trodAll_mk1 (shut_bool Try.underlying4 _), (trodAll_cons_mk (shut_int Try.underlying3 w0) (trodAll_cons_mk (Below.trod laidOut (by kernel_rfl) (of_decide_eq_true (by kernel_rfl)) k1 bel lt1) trodAll_mk0)), rfl, bel.frame _, fun h => by cases h⟩
theorem over : Rows.storePlaysRow.holds Try.pinned (OpenSpec.ofChange Rows.storePlaysSpec) :=
  OpenClaim.holds_of_wide 4 Try.f4 rfl rfl rfl rfl rfl rfl rfl ⟨rfl, rfl, rfl, rfl, rfl⟩ rfl rfl rfl rfl rfl (by kernel_rfl) Try.func4 (by kernel_rfl)
    (of_decide_eq_true (by kernel_rfl)) (by unfold Func.isWrapper; first | (rw [if_pos (by decide +kernel)]; kernel_rfl) | (rw [if_neg (by decide +kernel)]; exact ⟨rfl, rfl⟩))
    (fun os started H enc _ => lifted os started H enc)
theorem proved : Rows.StorePlaysSaid := over
end Go.Proofs.Ytahdbjciimppeaa.storePlays
namespace Go.Proofs.Ytahdbjciimppeaa
/-- The row, under a short name, for the claim. -/
theorem storePlays_holds : Rows.StorePlaysSaid := storePlays.proved
#print axioms storePlays_holds
end Go.Proofs.Ytahdbjciimppeaa
