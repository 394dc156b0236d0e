/- Numbers, bits, words are laid out as the document says, for any of the bulk (OctetTells): its head and its frame follow the kit's template for rows; printed by wip/tools/row2.py. -/
import Derived.Test.YtfbmlnajnlekbaaRows
import Derived.Test.YtfbmlnajnlekbaaPvAF
import Derived.Test.YtfbmlnajnlekbaaWOctetLaw
import Derived.WalkKit
import Derived.ProofKit
import Derived.OpenShut
import Derived.ShutString
import Derived.ChangeOld
import Derived.Below
import Derived.SizedLaws
import Derived.Carry
import Derived.WideShapes
import Derived.JoinedCond
namespace Go.Proofs.Ytfbmlnajnlekbaa.octetTellsUpto
open Go Go.ChangeShapes Go.WideShapes Go.ChangeAt Go.RowKit Go.Proofs.Ytfbmlnajnlekbaa Go.Proofs.Ytfbmlnajnlekbaa.Pv
open Go.ChangeMaps (open_string shut_string)
set_option linter.unusedVariables false
set_option maxHeartbeats 1000000
theorem own : ownKnob Try.prog.godebug = none := by kernel_rfl
theorem laidOut : laidOutB Try.prog = true := by kernel_rfl
theorem bulk_pos {H : Type} (d : DataW H) : 1 ≤ Rows.uptoBulk d := by cases d with | lit l => (cases l <;> simp [Rows.uptoBulk]) | _ => simp [Rows.uptoBulk]
theorem bulk_len {H : Type} : ∀ es : List (DataW H), es.length ≤ Rows.uptoBulkAll es
  | [] => by simp
  | d :: es => by have h1 := bulk_pos d; have h2 := bulk_len es; simp only [List.length_cons, Rows.uptoBulkAll]; omega
set_option maxRecDepth 100000 in
theorem lifted (os : Os) (started : os.Started) (H : Type) (enc : TypeId × Value → H) (F0 : Stop.Interp) :
    ReturnsInHanded {} Try.checked os 8 .any ((Rows.OpenSpec.upto Rows.octetTellsSpec).pre6 enc Try.prog Try.f8 Rows.octetTellsUptoRow.domain false) (((Rows.OpenSpec.upto Rows.octetTellsSpec).at F0).post enc Try.prog Try.f8 false true false false) := by
  refine returnsInHanded_of_cond (C := Try.checked) (s := (Rows.OpenSpec.upto Rows.octetTellsSpec)) (k := Rows.uptoSmall) rfl own started (by kernel_rfl) Try.func8
    (OpenSpec.witness (enc := enc) (C := Try.checked) (s := (Rows.OpenSpec.upto Rows.octetTellsSpec)) (k := Rows.uptoSmall) rfl false ⟨#[], #[.slice none 0 0, .int .i64 0, .int .i64 0, .slice none 0 0, .slice none 0 0], []⟩ 8 (by kernel_rfl) (by kernel_rfl) (by kernel_rfl) (x := ([.nil, .lit (.int .i64 0), .lit (.int .i64 0), .nil, .nil], [], [])) (by kernel_rfl) (by kernel_rfl) (by kernel_rfl)) ?_
  intro W base args ds gs before hval0 hW hcnd hbulk _
  have hval : ∀ (j : Nat) t v, Try.f8.params[j]? = some t → args[j]? = some v → Value.okWide Try.prog W .any base t v := hval0
  have hW' := hW
  obtain ⟨p, q, hA0, hV, rfl, hfz, hnd⟩ := hW
  have hA : DataW.TrodAll enc Try.prog W 0 (fun _ => true) true Try.f8.params.toList args.toList ds p := hA0
  rw [Try.params8] at hA hval
  obtain ⟨v0, vs0, d0, ds0, p0, q0, hargs, rfl, rfl, h0, r0⟩ := trodAll_cons hA
  obtain ⟨v1, vs1, d1, ds1, p1, q1, rfl, rfl, rfl, h1, r1⟩ := trodAll_cons r0
  obtain ⟨v2, vs2, d2, ds2, p2, q2, rfl, rfl, rfl, h2, r2⟩ := trodAll_cons r1
  obtain ⟨v3, vs3, d3, ds3, p3, q3, rfl, rfl, rfl, h3, r3⟩ := trodAll_cons r2
  obtain ⟨v4, vs4, d4, ds4, p4, q4, rfl, rfl, rfl, h4, r4⟩ := trodAll_cons r3
  obtain ⟨rfl, rfl, rfl⟩ := trodAll_nil r4
  obtain rfl : args = #[v0, v1, v2, v3, v4] := by cases args; simp_all
  obtain ⟨rfl, rfl⟩ := trodVars_none hV
  obtain ⟨a0, len0, cap0, rfl⟩ := okWide_slice Try.underlying27 (hval 0 27 v0 rfl rfl)
  have k0 := h0
  have lt0 : ∀ x ∈ p0, x.block < W.heap.size := by obtain ⟨m, hm⟩ := k0; exact DataW.trod_lt m _ _ _ hm
  obtain ⟨fu0, hf0⟩ := h0
  obtain ⟨l0, B0, rep0⟩ := Reads.argS (B := fun (x : UInt8) => True) Try.underlying27 (rdB_u8 Try.underlying5) 1 (by kernel_rfl) (by decide) hf0 rfl
  obtain ⟨a1, rfl, rfl, rfl, w1⟩ := open_int Try.underlying3 (hval 1 3 v1 rfl rfl) h1
  have x1 := wf_i64 w1
  obtain ⟨a2, rfl, rfl, rfl, w2⟩ := open_int Try.underlying3 (hval 2 3 v2 rfl rfl) h2
  have x2 := wf_i64 w2
  obtain ⟨a3, len3, cap3, rfl⟩ := okWide_slice Try.underlying44 (hval 3 44 v3 rfl rfl)
  have k3 := h3
  have lt3 : ∀ x ∈ p3, x.block < W.heap.size := by obtain ⟨m, hm⟩ := k3; exact DataW.trod_lt m _ _ _ hm
  obtain ⟨fu3, hf3⟩ := h3
  obtain ⟨l3, B3, rep3⟩ := Reads.argS (B := fun (x : Bool) => True) Try.underlying44 (rdB_bool Try.underlying4) 1 (by kernel_rfl) (by decide) hf3 rfl
  obtain ⟨a4, len4, cap4, rfl⟩ := okWide_slice Try.underlying45 (hval 4 45 v4 rfl rfl)
  have k4 := h4
  have lt4 : ∀ x ∈ p4, x.block < W.heap.size := by obtain ⟨m, hm⟩ := k4; exact DataW.trod_lt m _ _ _ hm
  obtain ⟨fu4, hf4⟩ := h4
  obtain ⟨l4, B4, rep4⟩ := Reads.argS (B := fun (x : UInt16) => True) Try.underlying45 (rdB_u16 Try.underlying47) 1 (by kernel_rfl) (by decide) hf4 rfl
  have hk2 : Rows.uptoBulkAll _ ≤ 1048576 := of_decide_eq_true hbulk
  simp only [List.append_nil, Rows.uptoBulkAll, Rows.uptoBulk] at hk2
  have y0 : l0.length ≤ 1048576 := by
    rcases B0 with rfl | ⟨es, sp, rfl, e1⟩
    · simp
    · have := bulk_len es; simp only [Rows.uptoBulk] at hk2; omega
  have y3 : l3.length ≤ 1048576 := by
    rcases B3 with rfl | ⟨es, sp, rfl, e1⟩
    · simp
    · have := bulk_len es; simp only [Rows.uptoBulk] at hk2; omega
  have y4 : l4.length ≤ 1048576 := by
    rcases B4 with rfl | ⟨es, sp, rfl, e1⟩
    · simp
    · have := bulk_len es; simp only [Rows.uptoBulk] at hk2; omega
  clear hA0 hval0
  refine (T.row (w_burgagelaw1_OctetTells l0 false a1 a2 l3 false l4 false (by exact y0) (by exact x1) (by exact x2) (by exact y3) (by exact y4)) (w := W) (vals := [.slice a0 len0 cap0, .int .i64 a1, .int .i64 a2, .slice a3 len3 cap3, .slice a4 len4 cap4]) ⟨rep0, .f (.v _), .f (.v _), rep3, rep4, trivial⟩).mono fun e W' ⟨he, bel⟩ => ?_
  subst he
  exact ⟨_, rfl, _, _, _, [], _, [], hW', trodAll_mk1 (shut_bool Try.underlying4 _), (trodAll_cons_mk (Below.trod laidOut (by kernel_rfl) (of_decide_eq_true (by kernel_rfl)) k0 bel lt0) (trodAll_cons_mk (shut_int Try.underlying3 w1) (trodAll_cons_mk (shut_int Try.underlying3 w2) (trodAll_cons_mk (Below.trod laidOut (by kernel_rfl) (of_decide_eq_true (by kernel_rfl)) k3 bel lt3) (trodAll_cons_mk (Below.trod laidOut (by kernel_rfl) (of_decide_eq_true (by kernel_rfl)) k4 bel lt4) trodAll_mk0))))), rfl, bel.frame _, fun h => by cases h⟩
theorem over : Rows.octetTellsUptoRow.holds Try.pinned (Rows.OpenSpec.upto Rows.octetTellsSpec) :=
  OpenClaim.holds_of_cond 8 Try.f8 rfl rfl rfl rfl rfl rfl rfl ⟨rfl, rfl, rfl, rfl, rfl⟩ rfl rfl rfl rfl rfl (by kernel_rfl) Try.func8 (by kernel_rfl)
    (of_decide_eq_true (by kernel_rfl)) (by unfold Func.isWrapper; first | (rw [if_pos (by decide +kernel)]; kernel_rfl) | (rw [if_neg (by decide +kernel)]; exact ⟨rfl, rfl⟩))
    (fun os started H enc _ F0 => lifted os started H enc F0)
theorem proved : Rows.OctetTellsUptoSaid := over
end Go.Proofs.Ytfbmlnajnlekbaa.octetTellsUpto
namespace Go.Proofs.Ytfbmlnajnlekbaa
/-- The row, under a short name, for the claim. -/
theorem octetTellsUpto_holds : Rows.OctetTellsUptoSaid := octetTellsUpto.proved
#print axioms octetTellsUpto_holds
end Go.Proofs.Ytfbmlnajnlekbaa
