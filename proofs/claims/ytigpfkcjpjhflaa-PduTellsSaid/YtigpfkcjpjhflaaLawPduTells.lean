/- Requests are judged, written, read as the document says, for any, any bytes (PduTells): its head and its frame follow the kit's template for rows; printed by wip/tools/row2.py. -/
import Derived.Test.YtigpfkcjpjhflaaRows
import Derived.Test.YtigpfkcjpjhflaaQPduTells5
import Derived.WalkKit
import Derived.ProofKit
import Derived.OpenShut
import Derived.ShutString
import Derived.ChangeOld
import Derived.Below
import Derived.SizedLaws
import Derived.Carry
import Derived.WideShapes
namespace Go.Proofs.Ytigpfkcjpjhflaa.pduTells
open Go Go.ChangeShapes Go.WideShapes Go.ChangeAt Go.RowKit Go.Proofs.Ytigpfkcjpjhflaa Go.Proofs.Ytigpfkcjpjhflaa.Pv
open Go.ChangeMaps (open_string shut_string)
set_option linter.unusedVariables false
set_option maxHeartbeats 1000000
theorem own : ownKnob Try.prog.godebug = none := by kernel_rfl
theorem laidOut : laidOutB Try.prog = true := by kernel_rfl
set_option maxRecDepth 100000 in
theorem lifted (os : Os) (started : os.Started) (H : Type) (enc : TypeId × Value → H) :
    ReturnsInHanded {} Try.checked os 6 .any (Rows.pduTellsSpec.pre6 enc Try.prog Try.f6 Rows.pduTellsRow.domain false) (Rows.pduTellsSpec.post enc Try.prog Try.f6 false true false false) := by
  refine returnsInHanded_of_change_sized (C := Try.checked) own started (by kernel_rfl) Try.func6
    (ChangeSpec.witness6 (enc := enc) (C := Try.checked) false ⟨#[], #[.slice none 0 0, .int .i64 0, .int .i64 0, .int .i64 0, .agg #[.int .i64 0, .int .i64 0, .int .i64 0, .int .i64 0, .int .i64 0, .slice none 0 0, .slice none 0 0, .int .u16 0, .int .u16 0], .slice none 0 0, .int .u8 0], []⟩ 8 (by kernel_rfl) (by kernel_rfl) (by kernel_rfl) (by kernel_rfl)) ?_
  intro W base args ds gs before hval0 hW hcnd hsz0 _
  have hsz : (DataW.weightsEach Try.prog (Try.f6.params.toList ++ Rows.pduTellsSpec.plain.varTypes Try.prog) (ds ++ gs)).all (· ≤ reachBytes) = true := hsz0
  have hval : ∀ (j : Nat) t v, Try.f6.params[j]? = some t → args[j]? = some v → Value.okWide Try.prog W .any base t v := hval0
  have hW' := hW
  obtain ⟨p, q, hA0, hV, rfl, hfz, hnd⟩ := hW
  have hA : DataW.TrodAll enc Try.prog W 0 (fun _ => true) true Try.f6.params.toList args.toList ds p := hA0
  rw [Try.params6] at hA hval hsz
  obtain ⟨v0, vs0, d0, ds0, p0, q0, hargs, rfl, rfl, h0, r0⟩ := trodAll_cons hA
  obtain ⟨v1, vs1, d1, ds1, p1, q1, rfl, rfl, rfl, h1, r1⟩ := trodAll_cons r0
  obtain ⟨v2, vs2, d2, ds2, p2, q2, rfl, rfl, rfl, h2, r2⟩ := trodAll_cons r1
  obtain ⟨v3, vs3, d3, ds3, p3, q3, rfl, rfl, rfl, h3, r3⟩ := trodAll_cons r2
  obtain ⟨v4, vs4, d4, ds4, p4, q4, rfl, rfl, rfl, h4, r4⟩ := trodAll_cons r3
  obtain ⟨v5, vs5, d5, ds5, p5, q5, rfl, rfl, rfl, h5, r5⟩ := trodAll_cons r4
  obtain ⟨v6, vs6, d6, ds6, p6, q6, rfl, rfl, rfl, h6, r6⟩ := trodAll_cons r5
  obtain ⟨rfl, rfl, rfl⟩ := trodAll_nil r6
  obtain rfl : args = #[v0, v1, v2, v3, v4, v5, v6] := by cases args; simp_all
  obtain ⟨rfl, rfl⟩ := trodVars_none hV
  obtain ⟨a0, len0, cap0, rfl⟩ := okWide_slice Try.underlying22 (hval 0 22 v0 rfl rfl)
  have k0 := h0
  have lt0 : ∀ x ∈ p0, x.block < W.heap.size := by obtain ⟨m, hm⟩ := k0; exact DataW.trod_lt m _ _ _ hm
  obtain ⟨fu0, hf0⟩ := h0
  obtain ⟨l0, B0, rep0⟩ := ReadsB.arg (rdB_slice (B := fun (x : Int) => (-9223372036854775808 ≤ x ∧ x ≤ 9223372036854775807)) Try.underlying22 (rdB_int Try.underlying3) 1 (by kernel_rfl) (by decide) (m := 8) (by kernel_rfl)) hsz (j := 0) rfl rfl hf0 (fun a h => by cases h) (fun _ _ => rfl)
  obtain ⟨a1, rfl, rfl, rfl, w1⟩ := open_int Try.underlying3 (hval 1 3 v1 rfl rfl) h1
  have x1 := wf_i64 w1
  obtain ⟨a2, rfl, rfl, rfl, w2⟩ := open_int Try.underlying3 (hval 2 3 v2 rfl rfl) h2
  have x2 := wf_i64 w2
  obtain ⟨a3, rfl, rfl, rfl, w3⟩ := open_int Try.underlying3 (hval 3 3 v3 rfl rfl) h3
  have x3 := wf_i64 w3
  obtain ⟨c4, rfl, hc4⟩ := okWide_struct Try.underlying27 (hval 4 27 v4 rfl rfl)
  have k4 := h4
  have lt4 : ∀ x ∈ p4, x.block < W.heap.size := by obtain ⟨m, hm⟩ := k4; exact DataW.trod_lt m _ _ _ hm
  obtain ⟨fu4, hf4⟩ := h4
  obtain ⟨l4, B4, rep4⟩ := ReadsB.arg (ReadsB.map (g := eRequest) (B' := fun (x : TRequest) => ((-9223372036854775808 ≤ x.fn ∧ x.fn ≤ 9223372036854775807) ∧ ((-9223372036854775808 ≤ x.at_ ∧ x.at_ ≤ 9223372036854775807) ∧ ((-9223372036854775808 ≤ x.count ∧ x.count ≤ 9223372036854775807) ∧ ((-9223372036854775808 ≤ x.wAt ∧ x.wAt ≤ 9223372036854775807) ∧ ((-9223372036854775808 ≤ x.sub ∧ x.sub ≤ 9223372036854775807) ∧ ((x.bits.length * 1 ≤ 140737488351232 ∧ ∀ y23 ∈ x.bits, True) ∧ ((x.vals.length * 2 ≤ 140737488351232 ∧ ∀ y24 ∈ x.vals, True) ∧ (True ∧ (True ∧ True)))))))))) (rdB_struct Try.underlying27 rfl (by kernel_rfl) (rdL_cons (t := 3) (B := fun (x : Int) => (-9223372036854775808 ≤ x ∧ x ≤ 9223372036854775807)) 1 (rdB_int Try.underlying3) (by kernel_rfl) (rdL_cons (t := 3) (B := fun (x : Int) => (-9223372036854775808 ≤ x ∧ x ≤ 9223372036854775807)) 1 (rdB_int Try.underlying3) (by kernel_rfl) (rdL_cons (t := 3) (B := fun (x : Int) => (-9223372036854775808 ≤ x ∧ x ≤ 9223372036854775807)) 1 (rdB_int Try.underlying3) (by kernel_rfl) (rdL_cons (t := 3) (B := fun (x : Int) => (-9223372036854775808 ≤ x ∧ x ≤ 9223372036854775807)) 1 (rdB_int Try.underlying3) (by kernel_rfl) (rdL_cons (t := 3) (B := fun (x : Int) => (-9223372036854775808 ≤ x ∧ x ≤ 9223372036854775807)) 1 (rdB_int Try.underlying3) (by kernel_rfl) (rdL_cons (t := 23) (B := fun (x : List Bool) => (x.length * 1 ≤ 140737488351232 ∧ ∀ y23 ∈ x, True)) 1 (rdB_slice (B := fun (x : Bool) => True) Try.underlying23 (rdB_bool Try.underlying4) 1 (by kernel_rfl) (by decide) (m := 1) (by kernel_rfl)) (by kernel_rfl) (rdL_cons (t := 24) (B := fun (x : List UInt16) => (x.length * 2 ≤ 140737488351232 ∧ ∀ y24 ∈ x, True)) 1 (rdB_slice (B := fun (x : UInt16) => True) Try.underlying24 (rdB_u16 Try.underlying25) 1 (by kernel_rfl) (by decide) (m := 2) (by kernel_rfl)) (by kernel_rfl) (rdL_cons (t := 25) (B := fun (x : UInt16) => True) 1 (rdB_u16 Try.underlying25) (by kernel_rfl) (rdL_cons (t := 25) (B := fun (x : UInt16) => True) 1 (rdB_u16 Try.underlying25) (by kernel_rfl) rdL_nil)))))))))) (fun p => (⟨p.1, p.2.1, p.2.2.1, p.2.2.2.1, p.2.2.2.2.1, p.2.2.2.2.2.1, p.2.2.2.2.2.2.1, p.2.2.2.2.2.2.2.1, p.2.2.2.2.2.2.2.2.1⟩ : TRequest)) (fun _ => rfl) (fun _ h => h)) hsz (j := 4) rfl rfl hf4 (fun _ _ => ⟨_, rfl⟩) (fun a h => by cases h)
  obtain ⟨a5, len5, cap5, rfl⟩ := okWide_slice Try.underlying34 (hval 5 34 v5 rfl rfl)
  have k5 := h5
  have lt5 : ∀ x ∈ p5, x.block < W.heap.size := by obtain ⟨m, hm⟩ := k5; exact DataW.trod_lt m _ _ _ hm
  obtain ⟨fu5, hf5⟩ := h5
  obtain ⟨l5, B5, rep5⟩ := ReadsB.arg (rdB_slice (B := fun (x : UInt8) => True) Try.underlying34 (rdB_u8 Try.underlying5) 1 (by kernel_rfl) (by decide) (m := 1) (by kernel_rfl)) hsz (j := 5) rfl rfl hf5 (fun a h => by cases h) (fun _ _ => rfl)
  obtain ⟨a6, rfl, rfl, rfl, w6⟩ := open_int Try.underlying5 (hval 6 5 v6 rfl rfl) h6
  obtain ⟨b6, rfl⟩ := u8_of w6
  clear hA0 hval0 hsz0 hsz
  refine (T.row (w_burgagelaw3_PduTells l0 false a1 a2 a3 l4 l5 false b6 (by have := B0.1; omega) (by exact x2) (by exact x3) (by have := B4.1; omega) (by have := B4.2; omega) (by have := B5.1; omega)) (w := W) (vals := [.slice a0 len0 cap0, .int .i64 a1, .int .i64 a2, .int .i64 a3, .agg c4, .slice a5 len5 cap5, .int .u8 b6.toNat]) ⟨rep0, .f (.v _), .f (.v _), .f (.v _), rep4, rep5, .f (.v _), trivial⟩).mono fun e W' ⟨he, bel⟩ => ?_
  subst he
  exact ⟨_, rfl, _, _, _, [], _, [], hW', trodAll_mk1 (shut_bool Try.underlying4 _), (trodAll_cons_mk (Below.trod laidOut (by kernel_rfl) (of_decide_eq_true (by kernel_rfl)) k0 bel lt0) (trodAll_cons_mk (shut_int Try.underlying3 w1) (trodAll_cons_mk (shut_int Try.underlying3 w2) (trodAll_cons_mk (shut_int Try.underlying3 w3) (trodAll_cons_mk (Below.trod laidOut (by kernel_rfl) (of_decide_eq_true (by kernel_rfl)) k4 bel lt4) (trodAll_cons_mk (Below.trod laidOut (by kernel_rfl) (of_decide_eq_true (by kernel_rfl)) k5 bel lt5) (trodAll_cons_mk (shut_int Try.underlying5 w6) trodAll_mk0))))))), rfl, bel.frame _, fun h => by cases h⟩
theorem over : Rows.pduTellsRow.holds Try.pinned (OpenSpec.ofChange Rows.pduTellsSpec) :=
  OpenClaim.holds_of_wide 6 Try.f6 rfl rfl rfl rfl rfl rfl rfl ⟨rfl, rfl, rfl, rfl, rfl⟩ rfl rfl rfl rfl rfl (by kernel_rfl) Try.func6 (by kernel_rfl)
    (of_decide_eq_true (by kernel_rfl)) (by unfold Func.isWrapper; first | (rw [if_pos (by decide +kernel)]; kernel_rfl) | (rw [if_neg (by decide +kernel)]; exact ⟨rfl, rfl⟩))
    (fun os started H enc _ => lifted os started H enc)
theorem proved : Rows.PduTellsSaid := over
end Go.Proofs.Ytigpfkcjpjhflaa.pduTells
namespace Go.Proofs.Ytigpfkcjpjhflaa
/-- The row, under a short name, for the claim. -/
theorem pduTells_holds : Rows.PduTellsSaid := pduTells.proved
#print axioms pduTells_holds
end Go.Proofs.Ytigpfkcjpjhflaa
