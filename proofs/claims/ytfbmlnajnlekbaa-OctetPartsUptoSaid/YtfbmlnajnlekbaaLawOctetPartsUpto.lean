/- Bytes of two rows of words are those of both; bits by whole bytes likewise (OctetParts): its head and its frame follow the kit's template for rows; printed by wip/tools/row2.py. -/
import Derived.Test.YtfbmlnajnlekbaaRows
import Derived.Test.YtfbmlnajnlekbaaPvAF
import Derived.Test.YtfbmlnajnlekbaaWOctetParts
import Derived.WalkKit
import Derived.ProofKit
import Derived.OpenShut
import Derived.ShutString
import Derived.ChangeOld
import Derived.Below
import Derived.SizedLaws
import Derived.Carry
import Derived.WideShapes
import Derived.JoinedCond
namespace Go.Proofs.Ytfbmlnajnlekbaa.octetPartsUpto
open Go Go.ChangeShapes Go.WideShapes Go.ChangeAt Go.RowKit Go.Proofs.Ytfbmlnajnlekbaa Go.Proofs.Ytfbmlnajnlekbaa.Pv
open Go.ChangeMaps (open_string shut_string)
set_option linter.unusedVariables false
set_option maxHeartbeats 1000000
theorem own : ownKnob Try.prog.godebug = none := by kernel_rfl
theorem laidOut : laidOutB Try.prog = true := by kernel_rfl
theorem bulk_pos {H : Type} (d : DataW H) : 1 ≤ Rows.uptoBulk d := by cases d with | lit l => (cases l <;> simp [Rows.uptoBulk]) | _ => simp [Rows.uptoBulk]
theorem bulk_len {H : Type} : ∀ es : List (DataW H), es.length ≤ Rows.uptoBulkAll es
  | [] => by simp
  | d :: es => by have h1 := bulk_pos d; have h2 := bulk_len es; simp only [List.length_cons, Rows.uptoBulkAll]; omega
set_option maxRecDepth 100000 in
theorem lifted (os : Os) (started : os.Started) (H : Type) (enc : TypeId × Value → H) (F0 : Stop.Interp) :
    ReturnsInHanded {} Try.checked os 10 .any ((Rows.OpenSpec.upto Rows.octetPartsSpec).pre6 enc Try.prog Try.f10 Rows.octetPartsUptoRow.domain false) (((Rows.OpenSpec.upto Rows.octetPartsSpec).at F0).post enc Try.prog Try.f10 false true false false) := by
  refine returnsInHanded_of_cond (C := Try.checked) (s := (Rows.OpenSpec.upto Rows.octetPartsSpec)) (k := Rows.uptoSmall) rfl own started (by kernel_rfl) Try.func10
    (OpenSpec.witness (enc := enc) (C := Try.checked) (s := (Rows.OpenSpec.upto Rows.octetPartsSpec)) (k := Rows.uptoSmall) rfl false ⟨#[], #[.slice none 0 0, .slice none 0 0, .slice none 0 0, .slice none 0 0], []⟩ 8 (by kernel_rfl) (by kernel_rfl) (by kernel_rfl) (x := ([.nil, .nil, .nil, .nil], [], [])) (by kernel_rfl) (by kernel_rfl) (by kernel_rfl)) ?_
  intro W base args ds gs before hval0 hW hcnd hbulk _
  have hval : ∀ (j : Nat) t v, Try.f10.params[j]? = some t → args[j]? = some v → Value.okWide Try.prog W .any base t v := hval0
  have hW' := hW
  obtain ⟨p, q, hA0, hV, rfl, hfz, hnd⟩ := hW
  have hA : DataW.TrodAll enc Try.prog W 0 (fun _ => true) true Try.f10.params.toList args.toList ds p := hA0
  rw [Try.params10] at hA hval
  obtain ⟨v0, vs0, d0, ds0, p0, q0, hargs, rfl, rfl, h0, r0⟩ := trodAll_cons hA
  obtain ⟨v1, vs1, d1, ds1, p1, q1, rfl, rfl, rfl, h1, r1⟩ := trodAll_cons r0
  obtain ⟨v2, vs2, d2, ds2, p2, q2, rfl, rfl, rfl, h2, r2⟩ := trodAll_cons r1
  obtain ⟨v3, vs3, d3, ds3, p3, q3, rfl, rfl, rfl, h3, r3⟩ := trodAll_cons r2
  obtain ⟨rfl, rfl, rfl⟩ := trodAll_nil r3
  obtain rfl : args = #[v0, v1, v2, v3] := by cases args; simp_all
  obtain ⟨rfl, rfl⟩ := trodVars_none hV
  obtain ⟨a0, len0, cap0, rfl⟩ := okWide_slice Try.underlying45 (hval 0 45 v0 rfl rfl)
  have k0 := h0
  have lt0 : ∀ x ∈ p0, x.block < W.heap.size := by obtain ⟨m, hm⟩ := k0; exact DataW.trod_lt m _ _ _ hm
  obtain ⟨fu0, hf0⟩ := h0
  obtain ⟨l0, B0, rep0⟩ := Reads.argS (B := fun (x : UInt16) => True) Try.underlying45 (rdB_u16 Try.underlying47) 1 (by kernel_rfl) (by decide) hf0 rfl
  obtain ⟨a1, len1, cap1, rfl⟩ := okWide_slice Try.underlying45 (hval 1 45 v1 rfl rfl)
  have k1 := h1
  have lt1 : ∀ x ∈ p1, x.block < W.heap.size := by obtain ⟨m, hm⟩ := k1; exact DataW.trod_lt m _ _ _ hm
  obtain ⟨fu1, hf1⟩ := h1
  obtain ⟨l1, B1, rep1⟩ := Reads.argS (B := fun (x : UInt16) => True) Try.underlying45 (rdB_u16 Try.underlying47) 1 (by kernel_rfl) (by decide) hf1 rfl
  obtain ⟨a2, len2, cap2, rfl⟩ := okWide_slice Try.underlying44 (hval 2 44 v2 rfl rfl)
  have k2 := h2
  have lt2 : ∀ x ∈ p2, x.block < W.heap.size := by obtain ⟨m, hm⟩ := k2; exact DataW.trod_lt m _ _ _ hm
  obtain ⟨fu2, hf2⟩ := h2
  obtain ⟨l2, B2, rep2⟩ := Reads.argS (B := fun (x : Bool) => True) Try.underlying44 (rdB_bool Try.underlying4) 1 (by kernel_rfl) (by decide) hf2 rfl
  obtain ⟨a3, len3, cap3, rfl⟩ := okWide_slice Try.underlying44 (hval 3 44 v3 rfl rfl)
  have k3 := h3
  have lt3 : ∀ x ∈ p3, x.block < W.heap.size := by obtain ⟨m, hm⟩ := k3; exact DataW.trod_lt m _ _ _ hm
  obtain ⟨fu3, hf3⟩ := h3
  obtain ⟨l3, B3, rep3⟩ := Reads.argS (B := fun (x : Bool) => True) Try.underlying44 (rdB_bool Try.underlying4) 1 (by kernel_rfl) (by decide) hf3 rfl
  have hk2 : Rows.uptoBulkAll _ ≤ 1048576 := of_decide_eq_true hbulk
  simp only [List.append_nil, Rows.uptoBulkAll, Rows.uptoBulk] at hk2
  have y0 : l0.length ≤ 1048576 := by
    rcases B0 with rfl | ⟨es, sp, rfl, e1⟩
    · simp
    · have := bulk_len es; simp only [Rows.uptoBulk] at hk2; omega
  have y1 : l1.length ≤ 1048576 := by
    rcases B1 with rfl | ⟨es, sp, rfl, e1⟩
    · simp
    · have := bulk_len es; simp only [Rows.uptoBulk] at hk2; omega
  have y2 : l2.length ≤ 1048576 := by
    rcases B2 with rfl | ⟨es, sp, rfl, e1⟩
    · simp
    · have := bulk_len es; simp only [Rows.uptoBulk] at hk2; omega
  have y3 : l3.length ≤ 1048576 := by
    rcases B3 with rfl | ⟨es, sp, rfl, e1⟩
    · simp
    · have := bulk_len es; simp only [Rows.uptoBulk] at hk2; omega
  clear hA0 hval0
  refine (T.row (w_burgagelaw1_OctetParts l0 false l1 false l2 false l3 false (by exact y0) (by exact y1) (by exact y2) (by exact y3)) (w := W) (vals := [.slice a0 len0 cap0, .slice a1 len1 cap1, .slice a2 len2 cap2, .slice a3 len3 cap3]) ⟨rep0, rep1, rep2, rep3, trivial⟩).mono fun e W' ⟨he, bel⟩ => ?_
  subst he
  exact ⟨_, rfl, _, _, _, [], _, [], hW', trodAll_mk1 (shut_bool Try.underlying4 _), (trodAll_cons_mk (Below.trod laidOut (by kernel_rfl) (of_decide_eq_true (by kernel_rfl)) k0 bel lt0) (trodAll_cons_mk (Below.trod laidOut (by kernel_rfl) (of_decide_eq_true (by kernel_rfl)) k1 bel lt1) (trodAll_cons_mk (Below.trod laidOut (by kernel_rfl) (of_decide_eq_true (by kernel_rfl)) k2 bel lt2) (trodAll_cons_mk (Below.trod laidOut (by kernel_rfl) (of_decide_eq_true (by kernel_rfl)) k3 bel lt3) trodAll_mk0)))), rfl, bel.frame _, fun h => by cases h⟩
theorem over : Rows.octetPartsUptoRow.holds Try.pinned (Rows.OpenSpec.upto Rows.octetPartsSpec) :=
  OpenClaim.holds_of_cond 10 Try.f10 rfl rfl rfl rfl rfl rfl rfl ⟨rfl, rfl, rfl, rfl, rfl⟩ rfl rfl rfl rfl rfl (by kernel_rfl) Try.func10 (by kernel_rfl)
    (of_decide_eq_true (by kernel_rfl)) (by unfold Func.isWrapper; first | (rw [if_pos (by decide +kernel)]; kernel_rfl) | (rw [if_neg (by decide +kernel)]; exact ⟨rfl, rfl⟩))
    (fun os started H enc _ F0 => lifted os started H enc F0)
theorem proved : Rows.OctetPartsUptoSaid := over
end Go.Proofs.Ytfbmlnajnlekbaa.octetPartsUpto
namespace Go.Proofs.Ytfbmlnajnlekbaa
/-- The row, under a short name, for the claim. -/
theorem octetPartsUpto_holds : Rows.OctetPartsUptoSaid := octetPartsUpto.proved
#print axioms octetPartsUpto_holds
end Go.Proofs.Ytfbmlnajnlekbaa
