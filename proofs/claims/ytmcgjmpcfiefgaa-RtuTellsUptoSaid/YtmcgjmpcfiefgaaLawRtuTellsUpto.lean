/- Frames are made, read, parted by silence as the document says, for any of the bulk (RtuTells): its head and its frame follow the kit's template for rows; printed by wip/tools/row2.py. -/
import Derived.Test.YtmcgjmpcfiefgaaRows
import Derived.Test.YtmcgjmpcfiefgaaPvAH
import Derived.Test.YtmcgjmpcfiefgaaWRtuLaw
import Derived.WalkKit
import Derived.ProofKit
import Derived.OpenShut
import Derived.ShutString
import Derived.ChangeOld
import Derived.Below
import Derived.SizedLaws
import Derived.Carry
import Derived.WideShapes
import Derived.JoinedCond
namespace Go.Proofs.Ytmcgjmpcfiefgaa.rtuTellsUpto
open Go Go.ChangeShapes Go.WideShapes Go.ChangeAt Go.RowKit Go.Proofs.Ytmcgjmpcfiefgaa Go.Proofs.Ytmcgjmpcfiefgaa.Pv
open Go.ChangeMaps (open_string shut_string)
set_option linter.unusedVariables false
set_option maxHeartbeats 1000000
theorem own : ownKnob Try.prog.godebug = none := by kernel_rfl
theorem laidOut : laidOutB Try.prog = true := by kernel_rfl
theorem bulk_pos {H : Type} (d : DataW H) : 1 ≤ Rows.uptoBulk d := by cases d with | lit l => (cases l <;> simp [Rows.uptoBulk]) | _ => simp [Rows.uptoBulk]
theorem bulk_len {H : Type} : ∀ es : List (DataW H), es.length ≤ Rows.uptoBulkAll es
  | [] => by simp
  | d :: es => by have h1 := bulk_pos d; have h2 := bulk_len es; simp only [List.length_cons, Rows.uptoBulkAll]; omega
theorem bulk_mem {H : Type} : ∀ {es : List (DataW H)} {x : DataW H}, x ∈ es → Rows.uptoBulk x ≤ Rows.uptoBulkAll es
  | [], x, h => by cases h
  | d :: es, x, h => by
    simp only [Rows.uptoBulkAll]
    rcases List.mem_cons.1 h with e | e
    · subst e; omega
    · have := bulk_mem e; omega
def Sm {H : Type} (d : DataW H) : Prop := Rows.uptoBulk d ≤ 1048576
theorem sm_slice {H : Type} (es sp : List (DataW H)) (h : Sm (.slice es sp)) : es.length ≤ 1048576 ∧ ∀ x ∈ es, Sm x := by
  unfold Sm at h; simp only [Rows.uptoBulk] at h; have := bulk_len es
  exact ⟨by omega, fun x hx => by have := bulk_mem hx; unfold Sm; omega⟩
theorem sm_agg {H : Type} (ps : List (DataW H)) (h : Sm (.agg ps)) : ∀ x ∈ ps, Sm x := by
  unfold Sm at h; simp only [Rows.uptoBulk] at h
  exact fun x hx => by have := bulk_mem hx; unfold Sm; omega
set_option maxRecDepth 100000 in
theorem lifted (os : Os) (started : os.Started) (H : Type) (enc : TypeId × Value → H) (F0 : Stop.Interp) :
    ReturnsInHanded {} Try.checked os 8 .any ((Rows.OpenSpec.upto Rows.rtuTellsSpec).pre6 enc Try.prog Try.f8 Rows.rtuTellsUptoRow.domain false) (((Rows.OpenSpec.upto Rows.rtuTellsSpec).at F0).post enc Try.prog Try.f8 false true false false) := by
  refine returnsInHanded_of_cond (C := Try.checked) (s := (Rows.OpenSpec.upto Rows.rtuTellsSpec)) (k := Rows.uptoSmall) rfl own started (by kernel_rfl) Try.func8
    (OpenSpec.witness (enc := enc) (C := Try.checked) (s := (Rows.OpenSpec.upto Rows.rtuTellsSpec)) (k := Rows.uptoSmall) rfl false ⟨#[], #[.int .i64 0, .slice none 0 0, .int .i64 0, .int .u8 0, .slice none 0 0, .slice none 0 0], []⟩ 8 (by kernel_rfl) (by kernel_rfl) (by kernel_rfl) (x := ([.lit (.int .i64 0), .nil, .lit (.int .i64 0), .lit (.int .u8 0), .nil, .nil], [], [])) (by kernel_rfl) (by kernel_rfl) (by kernel_rfl)) ?_
  intro W base args ds gs before hval0 hW hcnd hbulk _
  have hval : ∀ (j : Nat) t v, Try.f8.params[j]? = some t → args[j]? = some v → Value.okWide Try.prog W .any base t v := hval0
  have hW' := hW
  obtain ⟨p, q, hA0, hV, rfl, hfz, hnd⟩ := hW
  have hA : DataW.TrodAll enc Try.prog W 0 (fun _ => true) true Try.f8.params.toList args.toList ds p := hA0
  rw [Try.params8] at hA hval
  obtain ⟨v0, vs0, d0, ds0, p0, q0, hargs, rfl, rfl, h0, r0⟩ := trodAll_cons hA
  obtain ⟨v1, vs1, d1, ds1, p1, q1, rfl, rfl, rfl, h1, r1⟩ := trodAll_cons r0
  obtain ⟨v2, vs2, d2, ds2, p2, q2, rfl, rfl, rfl, h2, r2⟩ := trodAll_cons r1
  obtain ⟨v3, vs3, d3, ds3, p3, q3, rfl, rfl, rfl, h3, r3⟩ := trodAll_cons r2
  obtain ⟨v4, vs4, d4, ds4, p4, q4, rfl, rfl, rfl, h4, r4⟩ := trodAll_cons r3
  obtain ⟨v5, vs5, d5, ds5, p5, q5, rfl, rfl, rfl, h5, r5⟩ := trodAll_cons r4
  obtain ⟨rfl, rfl, rfl⟩ := trodAll_nil r5
  obtain rfl : args = #[v0, v1, v2, v3, v4, v5] := by cases args; simp_all
  obtain ⟨rfl, rfl⟩ := trodVars_none hV
  have hk2 : Rows.uptoBulkAll _ ≤ 1048576 := of_decide_eq_true hbulk
  simp only [List.append_nil, Rows.uptoBulkAll] at hk2
  have sm1 : Sm d1 := by unfold Sm; omega
  have sm4 : Sm d4 := by unfold Sm; omega
  have sm5 : Sm d5 := by unfold Sm; omega
  clear hk2
  obtain ⟨a0, rfl, rfl, rfl, w0⟩ := open_int Try.underlying3 (hval 0 3 v0 rfl rfl) h0
  have x0 := wf_i64 w0
  obtain ⟨a1, len1, cap1, rfl⟩ := okWide_slice Try.underlying41 (hval 1 41 v1 rfl rfl)
  have k1 := h1
  have lt1 : ∀ x ∈ p1, x.block < W.heap.size := by obtain ⟨m, hm⟩ := k1; exact DataW.trod_lt m _ _ _ hm
  obtain ⟨fu1, hf1⟩ := h1
  obtain ⟨l1, B1, rep1⟩ := ReadsK.arg (rdK_slice (S := @Sm) (K := 1048576) sm_slice (B := fun (x : UInt8) => True) Try.underlying41 (rdK_u8 (S := @Sm) Try.underlying5) 1 (by kernel_rfl) (by decide)) sm1 hf1 (fun a h => by cases h) (fun _ _ => rfl)
  have y1 : l1.length ≤ 1048576 := B1.1
  obtain ⟨a2, rfl, rfl, rfl, w2⟩ := open_int Try.underlying3 (hval 2 3 v2 rfl rfl) h2
  have x2 := wf_i64 w2
  obtain ⟨a3, rfl, rfl, rfl, w3⟩ := open_int Try.underlying5 (hval 3 5 v3 rfl rfl) h3
  obtain ⟨b3, rfl⟩ := u8_of w3
  obtain ⟨a4, len4, cap4, rfl⟩ := okWide_slice Try.underlying54 (hval 4 54 v4 rfl rfl)
  have k4 := h4
  have lt4 : ∀ x ∈ p4, x.block < W.heap.size := by obtain ⟨m, hm⟩ := k4; exact DataW.trod_lt m _ _ _ hm
  obtain ⟨fu4, hf4⟩ := h4
  obtain ⟨l4, B4, rep4⟩ := ReadsK.arg (rdK_slice (S := @Sm) (K := 1048576) sm_slice (B := fun (x : Int) => (-9223372036854775808 ≤ x ∧ x ≤ 9223372036854775807)) Try.underlying54 (rdK_int (S := @Sm) Try.underlying2) 1 (by kernel_rfl) (by decide)) sm4 hf4 (fun a h => by cases h) (fun _ _ => rfl)
  have y4 : l4.length ≤ 1048576 := B4.1
  obtain ⟨a5, len5, cap5, rfl⟩ := okWide_slice Try.underlying41 (hval 5 41 v5 rfl rfl)
  have k5 := h5
  have lt5 : ∀ x ∈ p5, x.block < W.heap.size := by obtain ⟨m, hm⟩ := k5; exact DataW.trod_lt m _ _ _ hm
  obtain ⟨fu5, hf5⟩ := h5
  obtain ⟨l5, B5, rep5⟩ := ReadsK.arg (rdK_slice (S := @Sm) (K := 1048576) sm_slice (B := fun (x : UInt8) => True) Try.underlying41 (rdK_u8 (S := @Sm) Try.underlying5) 1 (by kernel_rfl) (by decide)) sm5 hf5 (fun a h => by cases h) (fun _ _ => rfl)
  have y5 : l5.length ≤ 1048576 := B5.1
  clear hA0 hval0
  refine (T.row (w_burgagelaw5_RtuTells a0 l1 false a2 b3 l4 false l5 false (by exact y1) (by exact y4) (by have := y5; omega) (by exact x2) (by exact x0) (by exact B4.2)) (w := W) (vals := [.int .i64 a0, .slice a1 len1 cap1, .int .i64 a2, .int .u8 b3.toNat, .slice a4 len4 cap4, .slice a5 len5 cap5]) ⟨.f (.v _), rep1, .f (.v _), .f (.v _), rep4, rep5, trivial⟩).mono fun e W' ⟨he, bel⟩ => ?_
  subst he
  exact ⟨_, rfl, _, _, _, [], _, [], hW', trodAll_mk1 (shut_bool Try.underlying4 _), (trodAll_cons_mk (shut_int Try.underlying3 w0) (trodAll_cons_mk (Below.trod laidOut (by kernel_rfl) (of_decide_eq_true (by kernel_rfl)) k1 bel lt1) (trodAll_cons_mk (shut_int Try.underlying3 w2) (trodAll_cons_mk (shut_int Try.underlying5 w3) (trodAll_cons_mk (Below.trod laidOut (by kernel_rfl) (of_decide_eq_true (by kernel_rfl)) k4 bel lt4) (trodAll_cons_mk (Below.trod laidOut (by kernel_rfl) (of_decide_eq_true (by kernel_rfl)) k5 bel lt5) trodAll_mk0)))))), rfl, bel.frame _, fun h => by cases h⟩
theorem over : Rows.rtuTellsUptoRow.holds Try.pinned (Rows.OpenSpec.upto Rows.rtuTellsSpec) :=
  OpenClaim.holds_of_cond 8 Try.f8 rfl rfl rfl rfl rfl rfl rfl ⟨rfl, rfl, rfl, rfl, rfl⟩ rfl rfl rfl rfl rfl (by kernel_rfl) Try.func8 (by kernel_rfl)
    (of_decide_eq_true (by kernel_rfl)) (by unfold Func.isWrapper; first | (rw [if_pos (by decide +kernel)]; kernel_rfl) | (rw [if_neg (by decide +kernel)]; exact ⟨rfl, rfl⟩))
    (fun os started H enc _ F0 => lifted os started H enc F0)
theorem proved : Rows.RtuTellsUptoSaid := over
end Go.Proofs.Ytmcgjmpcfiefgaa.rtuTellsUpto
namespace Go.Proofs.Ytmcgjmpcfiefgaa
/-- The row, under a short name, for the claim. -/
theorem rtuTellsUpto_holds : Rows.RtuTellsUptoSaid := rtuTellsUpto.proved
#print axioms rtuTellsUpto_holds
end Go.Proofs.Ytmcgjmpcfiefgaa
