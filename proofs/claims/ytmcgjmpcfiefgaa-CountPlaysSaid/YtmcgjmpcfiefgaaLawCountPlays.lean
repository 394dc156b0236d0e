/- Counts are kept, and told, as the document says, for any calls (CountPlays): its head and its frame follow the kit's template for rows; printed by wip/tools/row2.py. -/
import Derived.Test.YtmcgjmpcfiefgaaRows
import Derived.Test.YtmcgjmpcfiefgaaPvAE
import Derived.Test.YtmcgjmpcfiefgaaWCountLaw
import Derived.WalkKit
import Derived.ProofKit
import Derived.OpenShut
import Derived.ShutString
import Derived.ChangeOld
import Derived.Below
import Derived.SizedLaws
import Derived.Carry
import Derived.WideShapes
namespace Go.Proofs.Ytmcgjmpcfiefgaa.countPlays
open Go Go.ChangeShapes Go.WideShapes Go.ChangeAt Go.RowKit Go.Proofs.Ytmcgjmpcfiefgaa Go.Proofs.Ytmcgjmpcfiefgaa.Pv
open Go.ChangeMaps (open_string shut_string)
set_option linter.unusedVariables false
set_option maxHeartbeats 1000000
theorem own : ownKnob Try.prog.godebug = none := by kernel_rfl
theorem laidOut : laidOutB Try.prog = true := by kernel_rfl
set_option maxRecDepth 100000 in
theorem lifted (os : Os) (started : os.Started) (H : Type) (enc : TypeId × Value → H) :
    ReturnsInHanded {} Try.checked os 4 .any (Rows.countPlaysSpec.pre6 enc Try.prog Try.f4 Rows.countPlaysRow.domain false) (Rows.countPlaysSpec.post enc Try.prog Try.f4 false true false false) := by
  refine returnsInHanded_of_change_sized (C := Try.checked) own started (by kernel_rfl) Try.func4
    (ChangeSpec.witness6 (enc := enc) (C := Try.checked) false ⟨#[], #[.slice none 0 0], []⟩ 8 (by kernel_rfl) (by kernel_rfl) (by kernel_rfl) (by kernel_rfl)) ?_
  intro W base args ds gs before hval0 hW hcnd hsz0 _
  have hsz : (DataW.weightsEach Try.prog (Try.f4.params.toList ++ Rows.countPlaysSpec.plain.varTypes Try.prog) (ds ++ gs)).all (· ≤ reachBytes) = true := hsz0
  have hval : ∀ (j : Nat) t v, Try.f4.params[j]? = some t → args[j]? = some v → Value.okWide Try.prog W .any base t v := hval0
  have hW' := hW
  obtain ⟨p, q, hA0, hV, rfl, hfz, hnd⟩ := hW
  have hA : DataW.TrodAll enc Try.prog W 0 (fun _ => true) true Try.f4.params.toList args.toList ds p := hA0
  rw [Try.params4] at hA hval hsz
  obtain ⟨v0, vs0, d0, ds0, p0, q0, hargs, rfl, rfl, h0, r0⟩ := trodAll_cons hA
  obtain ⟨rfl, rfl, rfl⟩ := trodAll_nil r0
  obtain rfl : args = #[v0] := by cases args; simp_all
  obtain ⟨rfl, rfl⟩ := trodVars_none hV
  obtain ⟨a0, len0, cap0, rfl⟩ := okWide_slice Try.underlying27 (hval 0 27 v0 rfl rfl)
  have k0 := h0
  have lt0 : ∀ x ∈ p0, x.block < W.heap.size := by obtain ⟨m, hm⟩ := k0; exact DataW.trod_lt m _ _ _ hm
  obtain ⟨fu0, hf0⟩ := h0
  obtain ⟨l0, B0, rep0⟩ := ReadsB.arg (rdB_slice (B := fun (x : TAsk) => ((-9223372036854775808 ≤ x.kind ∧ x.kind ≤ 9223372036854775807) ∧ ((-9223372036854775808 ≤ x.n ∧ x.n ≤ 9223372036854775807) ∧ (((-9223372036854775808 ≤ x.q.fn ∧ x.q.fn ≤ 9223372036854775807) ∧ ((-9223372036854775808 ≤ x.q.at_ ∧ x.q.at_ ≤ 9223372036854775807) ∧ ((-9223372036854775808 ≤ x.q.count ∧ x.q.count ≤ 9223372036854775807) ∧ ((-9223372036854775808 ≤ x.q.wAt ∧ x.q.wAt ≤ 9223372036854775807) ∧ ((-9223372036854775808 ≤ x.q.sub ∧ x.q.sub ≤ 9223372036854775807) ∧ ((x.q.bits.length * 1 ≤ 140737488351232 ∧ ∀ y28 ∈ x.q.bits, True) ∧ ((x.q.vals.length * 2 ≤ 140737488351232 ∧ ∀ y29 ∈ x.q.vals, True) ∧ (True ∧ (True ∧ True))))))))) ∧ True)))) Try.underlying27 (ReadsB.map (g := eAsk) (B' := fun (x : TAsk) => ((-9223372036854775808 ≤ x.kind ∧ x.kind ≤ 9223372036854775807) ∧ ((-9223372036854775808 ≤ x.n ∧ x.n ≤ 9223372036854775807) ∧ (((-9223372036854775808 ≤ x.q.fn ∧ x.q.fn ≤ 9223372036854775807) ∧ ((-9223372036854775808 ≤ x.q.at_ ∧ x.q.at_ ≤ 9223372036854775807) ∧ ((-9223372036854775808 ≤ x.q.count ∧ x.q.count ≤ 9223372036854775807) ∧ ((-9223372036854775808 ≤ x.q.wAt ∧ x.q.wAt ≤ 9223372036854775807) ∧ ((-9223372036854775808 ≤ x.q.sub ∧ x.q.sub ≤ 9223372036854775807) ∧ ((x.q.bits.length * 1 ≤ 140737488351232 ∧ ∀ y28 ∈ x.q.bits, True) ∧ ((x.q.vals.length * 2 ≤ 140737488351232 ∧ ∀ y29 ∈ x.q.vals, True) ∧ (True ∧ (True ∧ True))))))))) ∧ True)))) (rdB_struct Try.underlying35 rfl (by kernel_rfl) (rdL_cons (t := 3) (B := fun (x : Int) => (-9223372036854775808 ≤ x ∧ x ≤ 9223372036854775807)) 1 (rdB_int Try.underlying3) (by kernel_rfl) (rdL_cons (t := 3) (B := fun (x : Int) => (-9223372036854775808 ≤ x ∧ x ≤ 9223372036854775807)) 1 (rdB_int Try.underlying3) (by kernel_rfl) (rdL_cons (t := 32) (B := fun (x : TRequest) => ((-9223372036854775808 ≤ x.fn ∧ x.fn ≤ 9223372036854775807) ∧ ((-9223372036854775808 ≤ x.at_ ∧ x.at_ ≤ 9223372036854775807) ∧ ((-9223372036854775808 ≤ x.count ∧ x.count ≤ 9223372036854775807) ∧ ((-9223372036854775808 ≤ x.wAt ∧ x.wAt ≤ 9223372036854775807) ∧ ((-9223372036854775808 ≤ x.sub ∧ x.sub ≤ 9223372036854775807) ∧ ((x.bits.length * 1 ≤ 140737488351232 ∧ ∀ y28 ∈ x.bits, True) ∧ ((x.vals.length * 2 ≤ 140737488351232 ∧ ∀ y29 ∈ x.vals, True) ∧ (True ∧ (True ∧ True)))))))))) 9 (ReadsB.map (g := eRequest) (B' := fun (x : TRequest) => ((-9223372036854775808 ≤ x.fn ∧ x.fn ≤ 9223372036854775807) ∧ ((-9223372036854775808 ≤ x.at_ ∧ x.at_ ≤ 9223372036854775807) ∧ ((-9223372036854775808 ≤ x.count ∧ x.count ≤ 9223372036854775807) ∧ ((-9223372036854775808 ≤ x.wAt ∧ x.wAt ≤ 9223372036854775807) ∧ ((-9223372036854775808 ≤ x.sub ∧ x.sub ≤ 9223372036854775807) ∧ ((x.bits.length * 1 ≤ 140737488351232 ∧ ∀ y28 ∈ x.bits, True) ∧ ((x.vals.length * 2 ≤ 140737488351232 ∧ ∀ y29 ∈ x.vals, True) ∧ (True ∧ (True ∧ True)))))))))) (rdB_struct Try.underlying32 rfl (by kernel_rfl) (rdL_cons (t := 3) (B := fun (x : Int) => (-9223372036854775808 ≤ x ∧ x ≤ 9223372036854775807)) 1 (rdB_int Try.underlying3) (by kernel_rfl) (rdL_cons (t := 3) (B := fun (x : Int) => (-9223372036854775808 ≤ x ∧ x ≤ 9223372036854775807)) 1 (rdB_int Try.underlying3) (by kernel_rfl) (rdL_cons (t := 3) (B := fun (x : Int) => (-9223372036854775808 ≤ x ∧ x ≤ 9223372036854775807)) 1 (rdB_int Try.underlying3) (by kernel_rfl) (rdL_cons (t := 3) (B := fun (x : Int) => (-9223372036854775808 ≤ x ∧ x ≤ 9223372036854775807)) 1 (rdB_int Try.underlying3) (by kernel_rfl) (rdL_cons (t := 3) (B := fun (x : Int) => (-9223372036854775808 ≤ x ∧ x ≤ 9223372036854775807)) 1 (rdB_int Try.underlying3) (by kernel_rfl) (rdL_cons (t := 28) (B := fun (x : List Bool) => (x.length * 1 ≤ 140737488351232 ∧ ∀ y28 ∈ x, True)) 1 (rdB_slice (B := fun (x : Bool) => True) Try.underlying28 (rdB_bool Try.underlying4) 1 (by kernel_rfl) (by decide) (m := 1) (by kernel_rfl)) (by kernel_rfl) (rdL_cons (t := 29) (B := fun (x : List UInt16) => (x.length * 2 ≤ 140737488351232 ∧ ∀ y29 ∈ x, True)) 1 (rdB_slice (B := fun (x : UInt16) => True) Try.underlying29 (rdB_u16 Try.underlying30) 1 (by kernel_rfl) (by decide) (m := 2) (by kernel_rfl)) (by kernel_rfl) (rdL_cons (t := 30) (B := fun (x : UInt16) => True) 1 (rdB_u16 Try.underlying30) (by kernel_rfl) (rdL_cons (t := 30) (B := fun (x : UInt16) => True) 1 (rdB_u16 Try.underlying30) (by kernel_rfl) rdL_nil)))))))))) (fun p => (⟨p.1, p.2.1, p.2.2.1, p.2.2.2.1, p.2.2.2.2.1, p.2.2.2.2.2.1, p.2.2.2.2.2.2.1, p.2.2.2.2.2.2.2.1, p.2.2.2.2.2.2.2.2.1⟩ : TRequest)) (fun _ => rfl) (fun _ h => h)) (by kernel_rfl) rdL_nil)))) (fun p => (⟨p.1, p.2.1, p.2.2.1⟩ : TAsk)) (fun _ => rfl) (fun _ h => h)) 11 (by kernel_rfl) (by decide) (m := 112) (by kernel_rfl)) hsz (j := 0) rfl rfl hf0 (fun a h => by cases h) (fun _ _ => rfl)
  clear hA0 hval0 hsz0 hsz
  refine (T.row (w_burgagelaw19_CountPlays l0 false (by exact B0.1) (by intro a ha; have := B0.2 a ha; exact ⟨this.2.1, by omega, by omega⟩)) (w := W) (vals := [.slice a0 len0 cap0]) ⟨rep0, trivial⟩).mono fun e W' ⟨he, bel⟩ => ?_
  subst he
  exact ⟨_, rfl, _, _, _, [], _, [], hW', trodAll_mk1 (shut_bool Try.underlying4 _), (trodAll_cons_mk (Below.trod laidOut (by kernel_rfl) (of_decide_eq_true (by kernel_rfl)) k0 bel lt0) trodAll_mk0), rfl, bel.frame _, fun h => by cases h⟩
theorem over : Rows.countPlaysRow.holds Try.pinned (OpenSpec.ofChange Rows.countPlaysSpec) :=
  OpenClaim.holds_of_wide 4 Try.f4 rfl rfl rfl rfl rfl rfl rfl ⟨rfl, rfl, rfl, rfl, rfl⟩ rfl rfl rfl rfl rfl (by kernel_rfl) Try.func4 (by kernel_rfl)
    (of_decide_eq_true (by kernel_rfl)) (by unfold Func.isWrapper; first | (rw [if_pos (by decide +kernel)]; kernel_rfl) | (rw [if_neg (by decide +kernel)]; exact ⟨rfl, rfl⟩))
    (fun os started H enc _ => lifted os started H enc)
theorem proved : Rows.CountPlaysSaid := over
end Go.Proofs.Ytmcgjmpcfiefgaa.countPlays
namespace Go.Proofs.Ytmcgjmpcfiefgaa
/-- The row, under a short name, for the claim. -/
theorem countPlays_holds : Rows.CountPlaysSaid := countPlays.proved
#print axioms countPlays_holds
end Go.Proofs.Ytmcgjmpcfiefgaa
