/- Streams are put together as the document says, whatever comes, however it is cut, for any of the bulk (MbapPlays): its head and its frame follow the kit's template for rows; printed by wip/tools/row2.py. -/
import Derived.Test.YtfbmlnajnlekbaaRows
import Derived.Test.YtfbmlnajnlekbaaQMbapPlaysUpto4
import Derived.WalkKit
import Derived.ProofKit
import Derived.OpenShut
import Derived.ShutString
import Derived.ChangeOld
import Derived.Below
import Derived.SizedLaws
import Derived.Carry
import Derived.WideShapes
import Derived.JoinedCond
namespace Go.Proofs.Ytfbmlnajnlekbaa.mbapPlaysUpto
open Go Go.ChangeShapes Go.WideShapes Go.ChangeAt Go.RowKit Go.Proofs.Ytfbmlnajnlekbaa Go.Proofs.Ytfbmlnajnlekbaa.Pv
open Go.ChangeMaps (open_string shut_string)
set_option linter.unusedVariables false
set_option maxHeartbeats 1000000
theorem own : ownKnob Try.prog.godebug = none := by kernel_rfl
theorem laidOut : laidOutB Try.prog = true := by kernel_rfl
theorem bulk_pos {H : Type} (d : DataW H) : 1 ≤ Rows.uptoBulk d := by cases d with | lit l => (cases l <;> simp [Rows.uptoBulk]) | _ => simp [Rows.uptoBulk]
theorem bulk_len {H : Type} : ∀ es : List (DataW H), es.length ≤ Rows.uptoBulkAll es
  | [] => by simp
  | d :: es => by have h1 := bulk_pos d; have h2 := bulk_len es; simp only [List.length_cons, Rows.uptoBulkAll]; omega
theorem bulk_mem {H : Type} : ∀ {es : List (DataW H)} {x : DataW H}, x ∈ es → Rows.uptoBulk x ≤ Rows.uptoBulkAll es
  | [], x, h => by cases h
  | d :: es, x, h => by
    simp only [Rows.uptoBulkAll]
    rcases List.mem_cons.1 h with e | e
    · subst e; omega
    · have := bulk_mem e; omega
def Sm {H : Type} (d : DataW H) : Prop := Rows.uptoBulk d ≤ 1048576
theorem sm_slice {H : Type} (es sp : List (DataW H)) (h : Sm (.slice es sp)) : es.length ≤ 1048576 ∧ ∀ x ∈ es, Sm x := by
  unfold Sm at h; simp only [Rows.uptoBulk] at h; have := bulk_len es
  exact ⟨by omega, fun x hx => by have := bulk_mem hx; unfold Sm; omega⟩
theorem sm_agg {H : Type} (ps : List (DataW H)) (h : Sm (.agg ps)) : ∀ x ∈ ps, Sm x := by
  unfold Sm at h; simp only [Rows.uptoBulk] at h
  exact fun x hx => by have := bulk_mem hx; unfold Sm; omega
set_option maxRecDepth 100000 in
theorem lifted (os : Os) (started : os.Started) (H : Type) (enc : TypeId × Value → H) (F0 : Stop.Interp) :
    ReturnsInHanded {} Try.checked os 4 .any ((Rows.OpenSpec.upto Rows.mbapPlaysSpec).pre6 enc Try.prog Try.f4 Rows.mbapPlaysUptoRow.domain false) (((Rows.OpenSpec.upto Rows.mbapPlaysSpec).at F0).post enc Try.prog Try.f4 false true false false) := by
  refine returnsInHanded_of_cond (C := Try.checked) (s := (Rows.OpenSpec.upto Rows.mbapPlaysSpec)) (k := Rows.uptoSmall) rfl own started (by kernel_rfl) Try.func4
    (OpenSpec.witness (enc := enc) (C := Try.checked) (s := (Rows.OpenSpec.upto Rows.mbapPlaysSpec)) (k := Rows.uptoSmall) rfl false ⟨#[], #[.slice none 0 0, .slice none 0 0, .slice none 0 0, .int .i64 0, .int .u8 0, .int .i64 0, .int .i64 0], []⟩ 8 (by kernel_rfl) (by kernel_rfl) (by kernel_rfl) (x := ([.nil, .nil, .nil, .lit (.int .i64 0), .lit (.int .u8 0), .lit (.int .i64 0), .lit (.int .i64 0)], [], [])) (by kernel_rfl) (by kernel_rfl) (by kernel_rfl)) ?_
  intro W base args ds gs before hval0 hW hcnd hbulk _
  have hval : ∀ (j : Nat) t v, Try.f4.params[j]? = some t → args[j]? = some v → Value.okWide Try.prog W .any base t v := hval0
  have hW' := hW
  obtain ⟨p, q, hA0, hV, rfl, hfz, hnd⟩ := hW
  have hA : DataW.TrodAll enc Try.prog W 0 (fun _ => true) true Try.f4.params.toList args.toList ds p := hA0
  rw [Try.params4] at hA hval
  obtain ⟨v0, vs0, d0, ds0, p0, q0, hargs, rfl, rfl, h0, r0⟩ := trodAll_cons hA
  obtain ⟨v1, vs1, d1, ds1, p1, q1, rfl, rfl, rfl, h1, r1⟩ := trodAll_cons r0
  obtain ⟨v2, vs2, d2, ds2, p2, q2, rfl, rfl, rfl, h2, r2⟩ := trodAll_cons r1
  obtain ⟨v3, vs3, d3, ds3, p3, q3, rfl, rfl, rfl, h3, r3⟩ := trodAll_cons r2
  obtain ⟨v4, vs4, d4, ds4, p4, q4, rfl, rfl, rfl, h4, r4⟩ := trodAll_cons r3
  obtain ⟨v5, vs5, d5, ds5, p5, q5, rfl, rfl, rfl, h5, r5⟩ := trodAll_cons r4
  obtain ⟨v6, vs6, d6, ds6, p6, q6, rfl, rfl, rfl, h6, r6⟩ := trodAll_cons r5
  obtain ⟨rfl, rfl, rfl⟩ := trodAll_nil r6
  obtain rfl : args = #[v0, v1, v2, v3, v4, v5, v6] := by cases args; simp_all
  obtain ⟨rfl, rfl⟩ := trodVars_none hV
  have hk2 : Rows.uptoBulkAll _ ≤ 1048576 := of_decide_eq_true hbulk
  simp only [List.append_nil, Rows.uptoBulkAll] at hk2
  have sm0 : Sm d0 := by unfold Sm; omega
  have sm1 : Sm d1 := by unfold Sm; omega
  have sm2 : Sm d2 := by unfold Sm; omega
  clear hk2
  obtain ⟨a0, len0, cap0, rfl⟩ := okWide_slice Try.underlying22 (hval 0 22 v0 rfl rfl)
  have k0 := h0
  have lt0 : ∀ x ∈ p0, x.block < W.heap.size := by obtain ⟨m, hm⟩ := k0; exact DataW.trod_lt m _ _ _ hm
  obtain ⟨fu0, hf0⟩ := h0
  obtain ⟨l0, B0, rep0⟩ := ReadsK.arg (rdK_slice (S := @Sm) (K := 1048576) sm_slice (B := fun (x : Int) => (-9223372036854775808 ≤ x ∧ x ≤ 9223372036854775807)) Try.underlying22 (rdK_int (S := @Sm) Try.underlying3) 1 (by kernel_rfl) (by decide)) sm0 hf0 (fun a h => by cases h) (fun _ _ => rfl)
  have y0 : l0.length ≤ 1048576 := B0.1
  obtain ⟨a1, len1, cap1, rfl⟩ := okWide_slice Try.underlying22 (hval 1 22 v1 rfl rfl)
  have k1 := h1
  have lt1 : ∀ x ∈ p1, x.block < W.heap.size := by obtain ⟨m, hm⟩ := k1; exact DataW.trod_lt m _ _ _ hm
  obtain ⟨fu1, hf1⟩ := h1
  obtain ⟨l1, B1, rep1⟩ := ReadsK.arg (rdK_slice (S := @Sm) (K := 1048576) sm_slice (B := fun (x : Int) => (-9223372036854775808 ≤ x ∧ x ≤ 9223372036854775807)) Try.underlying22 (rdK_int (S := @Sm) Try.underlying3) 1 (by kernel_rfl) (by decide)) sm1 hf1 (fun a h => by cases h) (fun _ _ => rfl)
  have y1 : l1.length ≤ 1048576 := B1.1
  obtain ⟨a2, len2, cap2, rfl⟩ := okWide_slice Try.underlying23 (hval 2 23 v2 rfl rfl)
  have k2 := h2
  have lt2 : ∀ x ∈ p2, x.block < W.heap.size := by obtain ⟨m, hm⟩ := k2; exact DataW.trod_lt m _ _ _ hm
  obtain ⟨fu2, hf2⟩ := h2
  obtain ⟨l2, B2, rep2⟩ := ReadsK.arg (rdK_slice (S := @Sm) (K := 1048576) sm_slice (B := fun (x : List UInt8) => (x.length ≤ 1048576 ∧ ∀ y27 ∈ x, True)) Try.underlying23 (rdK_slice (S := @Sm) (K := 1048576) sm_slice (B := fun (x : UInt8) => True) Try.underlying27 (rdK_u8 (S := @Sm) Try.underlying5) 1 (by kernel_rfl) (by decide)) 1 (by kernel_rfl) (by decide)) sm2 hf2 (fun a h => by cases h) (fun _ _ => rfl)
  have y2 : l2.length ≤ 1048576 := B2.1
  obtain ⟨a3, rfl, rfl, rfl, w3⟩ := open_int Try.underlying3 (hval 3 3 v3 rfl rfl) h3
  have x3 := wf_i64 w3
  obtain ⟨a4, rfl, rfl, rfl, w4⟩ := open_int Try.underlying5 (hval 4 5 v4 rfl rfl) h4
  obtain ⟨b4, rfl⟩ := u8_of w4
  obtain ⟨a5, rfl, rfl, rfl, w5⟩ := open_int Try.underlying3 (hval 5 3 v5 rfl rfl) h5
  have x5 := wf_i64 w5
  obtain ⟨a6, rfl, rfl, rfl, w6⟩ := open_int Try.underlying3 (hval 6 3 v6 rfl rfl) h6
  have x6 := wf_i64 w6
  clear hA0 hval0
  refine (T.row (w_burgagelaw6_MbapPlays l0 false l1 false l2 false a3 b4 a5 a6 (by exact y0) (by exact y1) (by exact y2) (by intro x hx; exact (B2.2 x hx).1) (by exact x3)) (w := W) (vals := [.slice a0 len0 cap0, .slice a1 len1 cap1, .slice a2 len2 cap2, .int .i64 a3, .int .u8 b4.toNat, .int .i64 a5, .int .i64 a6]) ⟨rep0, rep1, rep2, .f (.v _), .f (.v _), .f (.v _), .f (.v _), trivial⟩).mono fun e W' ⟨he, bel⟩ => ?_
  subst he
  exact ⟨_, rfl, _, _, _, [], _, [], hW', trodAll_mk1 (shut_bool Try.underlying4 _), (trodAll_cons_mk (Below.trod laidOut (by kernel_rfl) (of_decide_eq_true (by kernel_rfl)) k0 bel lt0) (trodAll_cons_mk (Below.trod laidOut (by kernel_rfl) (of_decide_eq_true (by kernel_rfl)) k1 bel lt1) (trodAll_cons_mk (Below.trod laidOut (by kernel_rfl) (of_decide_eq_true (by kernel_rfl)) k2 bel lt2) (trodAll_cons_mk (shut_int Try.underlying3 w3) (trodAll_cons_mk (shut_int Try.underlying5 w4) (trodAll_cons_mk (shut_int Try.underlying3 w5) (trodAll_cons_mk (shut_int Try.underlying3 w6) trodAll_mk0))))))), rfl, bel.frame _, fun h => by cases h⟩
theorem over : Rows.mbapPlaysUptoRow.holds Try.pinned (Rows.OpenSpec.upto Rows.mbapPlaysSpec) :=
  OpenClaim.holds_of_cond 4 Try.f4 rfl rfl rfl rfl rfl rfl rfl ⟨rfl, rfl, rfl, rfl, rfl⟩ rfl rfl rfl rfl rfl (by kernel_rfl) Try.func4 (by kernel_rfl)
    (of_decide_eq_true (by kernel_rfl)) (by unfold Func.isWrapper; first | (rw [if_pos (by decide +kernel)]; kernel_rfl) | (rw [if_neg (by decide +kernel)]; exact ⟨rfl, rfl⟩))
    (fun os started H enc _ F0 => lifted os started H enc F0)
theorem proved : Rows.MbapPlaysUptoSaid := over
end Go.Proofs.Ytfbmlnajnlekbaa.mbapPlaysUpto
namespace Go.Proofs.Ytfbmlnajnlekbaa
/-- The row, under a short name, for the claim. -/
theorem mbapPlaysUpto_holds : Rows.MbapPlaysUptoSaid := mbapPlaysUpto.proved
#print axioms mbapPlaysUpto_holds
end Go.Proofs.Ytfbmlnajnlekbaa
