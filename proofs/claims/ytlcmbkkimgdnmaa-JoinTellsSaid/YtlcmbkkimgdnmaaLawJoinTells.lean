/- Answers are put together as the document says, for any (JoinTells): its head and its frame follow the kit's template for rows; printed by wip/tools/row2.py. -/
import Derived.Test.YtlcmbkkimgdnmaaRows
import Derived.Test.YtlcmbkkimgdnmaaQJoinTells5
import Derived.WalkKit
import Derived.ProofKit
import Derived.OpenShut
import Derived.ShutString
import Derived.ChangeOld
import Derived.Below
import Derived.SizedLaws
import Derived.Carry
import Derived.WideShapes
namespace Go.Proofs.Ytlcmbkkimgdnmaa.joinTells
open Go Go.ChangeShapes Go.WideShapes Go.ChangeAt Go.RowKit Go.Proofs.Ytlcmbkkimgdnmaa Go.Proofs.Ytlcmbkkimgdnmaa.Pv
open Go.ChangeMaps (open_string shut_string)
set_option linter.unusedVariables false
set_option maxHeartbeats 1000000
theorem own : ownKnob Try.prog.godebug = none := by kernel_rfl
theorem laidOut : laidOutB Try.prog = true := by kernel_rfl
set_option maxRecDepth 100000 in
theorem lifted (os : Os) (started : os.Started) (H : Type) (enc : TypeId × Value → H) :
    ReturnsInHanded {} Try.checked os 9 .any (Rows.joinTellsSpec.pre6 enc Try.prog Try.f9 Rows.joinTellsRow.domain false) (Rows.joinTellsSpec.post enc Try.prog Try.f9 false true false false) := by
  refine returnsInHanded_of_change_sized (C := Try.checked) own started (by kernel_rfl) Try.func9
    (ChangeSpec.witness6 (enc := enc) (C := Try.checked) false ⟨#[], #[.slice none 0 0, .slice none 0 0, .slice none 0 0, .int .i64 0, .agg #[.int .i64 0, .int .u32 0, .int .i64 0, .slice none 0 0, .slice none 0 0], .agg #[.int .i64 0, .int .i64 0, .int .i64 0, .int .i64 0, .int .i64 0, .slice none 0 0, .slice none 0 0, .int .u16 0, .int .u16 0], .slice none 0 0], []⟩ 8 (by kernel_rfl) (by kernel_rfl) (by kernel_rfl) (by kernel_rfl)) ?_
  intro W base args ds gs before hval0 hW hcnd hsz0 _
  have hsz : (DataW.weightsEach Try.prog (Try.f9.params.toList ++ Rows.joinTellsSpec.plain.varTypes Try.prog) (ds ++ gs)).all (· ≤ reachBytes) = true := hsz0
  have hval : ∀ (j : Nat) t v, Try.f9.params[j]? = some t → args[j]? = some v → Value.okWide Try.prog W .any base t v := hval0
  have hW' := hW
  obtain ⟨p, q, hA0, hV, rfl, hfz, hnd⟩ := hW
  have hA : DataW.TrodAll enc Try.prog W 0 (fun _ => true) true Try.f9.params.toList args.toList ds p := hA0
  rw [Try.params9] at hA hval hsz
  obtain ⟨v0, vs0, d0, ds0, p0, q0, hargs, rfl, rfl, h0, r0⟩ := trodAll_cons hA
  obtain ⟨v1, vs1, d1, ds1, p1, q1, rfl, rfl, rfl, h1, r1⟩ := trodAll_cons r0
  obtain ⟨v2, vs2, d2, ds2, p2, q2, rfl, rfl, rfl, h2, r2⟩ := trodAll_cons r1
  obtain ⟨v3, vs3, d3, ds3, p3, q3, rfl, rfl, rfl, h3, r3⟩ := trodAll_cons r2
  obtain ⟨v4, vs4, d4, ds4, p4, q4, rfl, rfl, rfl, h4, r4⟩ := trodAll_cons r3
  obtain ⟨v5, vs5, d5, ds5, p5, q5, rfl, rfl, rfl, h5, r5⟩ := trodAll_cons r4
  obtain ⟨v6, vs6, d6, ds6, p6, q6, rfl, rfl, rfl, h6, r6⟩ := trodAll_cons r5
  obtain ⟨rfl, rfl, rfl⟩ := trodAll_nil r6
  obtain rfl : args = #[v0, v1, v2, v3, v4, v5, v6] := by cases args; simp_all
  obtain ⟨rfl, rfl⟩ := trodVars_none hV
  obtain ⟨a0, len0, cap0, rfl⟩ := okWide_slice Try.underlying28 (hval 0 28 v0 rfl rfl)
  have k0 := h0
  have lt0 : ∀ x ∈ p0, x.block < W.heap.size := by obtain ⟨m, hm⟩ := k0; exact DataW.trod_lt m _ _ _ hm
  obtain ⟨fu0, hf0⟩ := h0
  obtain ⟨l0, B0, rep0⟩ := ReadsB.arg (rdB_slice (B := fun (x : Int) => (-9223372036854775808 ≤ x ∧ x ≤ 9223372036854775807)) Try.underlying28 (rdB_int Try.underlying3) 1 (by kernel_rfl) (by decide) (m := 8) (by kernel_rfl)) hsz (j := 0) rfl rfl hf0 (fun a h => by cases h) (fun _ _ => rfl)
  obtain ⟨a1, len1, cap1, rfl⟩ := okWide_slice Try.underlying28 (hval 1 28 v1 rfl rfl)
  have k1 := h1
  have lt1 : ∀ x ∈ p1, x.block < W.heap.size := by obtain ⟨m, hm⟩ := k1; exact DataW.trod_lt m _ _ _ hm
  obtain ⟨fu1, hf1⟩ := h1
  obtain ⟨l1, B1, rep1⟩ := ReadsB.arg (rdB_slice (B := fun (x : Int) => (-9223372036854775808 ≤ x ∧ x ≤ 9223372036854775807)) Try.underlying28 (rdB_int Try.underlying3) 1 (by kernel_rfl) (by decide) (m := 8) (by kernel_rfl)) hsz (j := 1) rfl rfl hf1 (fun a h => by cases h) (fun _ _ => rfl)
  obtain ⟨a2, len2, cap2, rfl⟩ := okWide_slice Try.underlying28 (hval 2 28 v2 rfl rfl)
  have k2 := h2
  have lt2 : ∀ x ∈ p2, x.block < W.heap.size := by obtain ⟨m, hm⟩ := k2; exact DataW.trod_lt m _ _ _ hm
  obtain ⟨fu2, hf2⟩ := h2
  obtain ⟨l2, B2, rep2⟩ := ReadsB.arg (rdB_slice (B := fun (x : Int) => (-9223372036854775808 ≤ x ∧ x ≤ 9223372036854775807)) Try.underlying28 (rdB_int Try.underlying3) 1 (by kernel_rfl) (by decide) (m := 8) (by kernel_rfl)) hsz (j := 2) rfl rfl hf2 (fun a h => by cases h) (fun _ _ => rfl)
  obtain ⟨a3, rfl, rfl, rfl, w3⟩ := open_int Try.underlying3 (hval 3 3 v3 rfl rfl) h3
  have x3 := wf_i64 w3
  obtain ⟨c4, rfl, hc4⟩ := okWide_struct Try.underlying26 (hval 4 26 v4 rfl rfl)
  have k4 := h4
  have lt4 : ∀ x ∈ p4, x.block < W.heap.size := by obtain ⟨m, hm⟩ := k4; exact DataW.trod_lt m _ _ _ hm
  obtain ⟨fu4, hf4⟩ := h4
  obtain ⟨l4, B4, rep4⟩ := ReadsB.arg (ReadsB.map (g := eTenant) (B' := fun (x : TTenant) => ((-9223372036854775808 ≤ x.unit ∧ x.unit ≤ 9223372036854775807) ∧ (True ∧ ((-9223372036854775808 ≤ x.queue ∧ x.queue ≤ 9223372036854775807) ∧ ((x.windows.length * 32 ≤ 140737488351232 ∧ ∀ y23 ∈ x.windows, ((-9223372036854775808 ≤ y23.space ∧ y23.space ≤ 9223372036854775807) ∧ ((-9223372036854775808 ≤ y23.virtual ∧ y23.virtual ≤ 9223372036854775807) ∧ ((-9223372036854775808 ≤ y23.physical ∧ y23.physical ≤ 9223372036854775807) ∧ ((-9223372036854775808 ≤ y23.count ∧ y23.count ≤ 9223372036854775807) ∧ True))))) ∧ ((x.slots.length * 16 ≤ 140737488351232 ∧ ∀ y24 ∈ x.slots, ((-9223372036854775808 ≤ y24.at_ ∧ y24.at_ ≤ 9223372036854775807) ∧ ((-9223372036854775808 ≤ y24.len_ ∧ y24.len_ ≤ 9223372036854775807) ∧ True))) ∧ True)))))) (rdB_struct Try.underlying26 rfl (by kernel_rfl) (rdL_cons (t := 3) (B := fun (x : Int) => (-9223372036854775808 ≤ x ∧ x ≤ 9223372036854775807)) 1 (rdB_int Try.underlying3) (by kernel_rfl) (rdL_cons (t := 22) (B := fun (x : Int) => True) 1 (rdB_K (k := .u32) Try.underlying22) (by kernel_rfl) (rdL_cons (t := 3) (B := fun (x : Int) => (-9223372036854775808 ≤ x ∧ x ≤ 9223372036854775807)) 1 (rdB_int Try.underlying3) (by kernel_rfl) (rdL_cons (t := 23) (B := fun (x : List TWindow) => (x.length * 32 ≤ 140737488351232 ∧ ∀ y23 ∈ x, ((-9223372036854775808 ≤ y23.space ∧ y23.space ≤ 9223372036854775807) ∧ ((-9223372036854775808 ≤ y23.virtual ∧ y23.virtual ≤ 9223372036854775807) ∧ ((-9223372036854775808 ≤ y23.physical ∧ y23.physical ≤ 9223372036854775807) ∧ ((-9223372036854775808 ≤ y23.count ∧ y23.count ≤ 9223372036854775807) ∧ True)))))) 1 (rdB_slice (B := fun (x : TWindow) => ((-9223372036854775808 ≤ x.space ∧ x.space ≤ 9223372036854775807) ∧ ((-9223372036854775808 ≤ x.virtual ∧ x.virtual ≤ 9223372036854775807) ∧ ((-9223372036854775808 ≤ x.physical ∧ x.physical ≤ 9223372036854775807) ∧ ((-9223372036854775808 ≤ x.count ∧ x.count ≤ 9223372036854775807) ∧ True))))) Try.underlying23 (ReadsB.map (g := eWindow) (B' := fun (x : TWindow) => ((-9223372036854775808 ≤ x.space ∧ x.space ≤ 9223372036854775807) ∧ ((-9223372036854775808 ≤ x.virtual ∧ x.virtual ≤ 9223372036854775807) ∧ ((-9223372036854775808 ≤ x.physical ∧ x.physical ≤ 9223372036854775807) ∧ ((-9223372036854775808 ≤ x.count ∧ x.count ≤ 9223372036854775807) ∧ True))))) (rdB_struct Try.underlying42 rfl (by kernel_rfl) (rdL_cons (t := 3) (B := fun (x : Int) => (-9223372036854775808 ≤ x ∧ x ≤ 9223372036854775807)) 1 (rdB_int Try.underlying3) (by kernel_rfl) (rdL_cons (t := 3) (B := fun (x : Int) => (-9223372036854775808 ≤ x ∧ x ≤ 9223372036854775807)) 1 (rdB_int Try.underlying3) (by kernel_rfl) (rdL_cons (t := 3) (B := fun (x : Int) => (-9223372036854775808 ≤ x ∧ x ≤ 9223372036854775807)) 1 (rdB_int Try.underlying3) (by kernel_rfl) (rdL_cons (t := 3) (B := fun (x : Int) => (-9223372036854775808 ≤ x ∧ x ≤ 9223372036854775807)) 1 (rdB_int Try.underlying3) (by kernel_rfl) rdL_nil))))) (fun p => (⟨p.1, p.2.1, p.2.2.1, p.2.2.2.1⟩ : TWindow)) (fun _ => rfl) (fun _ h => h)) 4 (by kernel_rfl) (by decide) (m := 32) (by kernel_rfl)) (by kernel_rfl) (rdL_cons (t := 24) (B := fun (x : List TSlot) => (x.length * 16 ≤ 140737488351232 ∧ ∀ y24 ∈ x, ((-9223372036854775808 ≤ y24.at_ ∧ y24.at_ ≤ 9223372036854775807) ∧ ((-9223372036854775808 ≤ y24.len_ ∧ y24.len_ ≤ 9223372036854775807) ∧ True)))) 1 (rdB_slice (B := fun (x : TSlot) => ((-9223372036854775808 ≤ x.at_ ∧ x.at_ ≤ 9223372036854775807) ∧ ((-9223372036854775808 ≤ x.len_ ∧ x.len_ ≤ 9223372036854775807) ∧ True))) Try.underlying24 (ReadsB.map (g := eSlot) (B' := fun (x : TSlot) => ((-9223372036854775808 ≤ x.at_ ∧ x.at_ ≤ 9223372036854775807) ∧ ((-9223372036854775808 ≤ x.len_ ∧ x.len_ ≤ 9223372036854775807) ∧ True))) (rdB_struct Try.underlying98 rfl (by kernel_rfl) (rdL_cons (t := 3) (B := fun (x : Int) => (-9223372036854775808 ≤ x ∧ x ≤ 9223372036854775807)) 1 (rdB_int Try.underlying3) (by kernel_rfl) (rdL_cons (t := 3) (B := fun (x : Int) => (-9223372036854775808 ≤ x ∧ x ≤ 9223372036854775807)) 1 (rdB_int Try.underlying3) (by kernel_rfl) rdL_nil))) (fun p => (⟨p.1, p.2.1⟩ : TSlot)) (fun _ => rfl) (fun _ h => h)) 2 (by kernel_rfl) (by decide) (m := 16) (by kernel_rfl)) (by kernel_rfl) rdL_nil)))))) (fun p => (⟨p.1, p.2.1, p.2.2.1, p.2.2.2.1, p.2.2.2.2.1⟩ : TTenant)) (fun _ => rfl) (fun _ h => h)) hsz (j := 4) rfl rfl hf4 (fun _ _ => ⟨_, rfl⟩) (fun a h => by cases h)
  obtain ⟨c5, rfl, hc5⟩ := okWide_struct Try.underlying37 (hval 5 37 v5 rfl rfl)
  have k5 := h5
  have lt5 : ∀ x ∈ p5, x.block < W.heap.size := by obtain ⟨m, hm⟩ := k5; exact DataW.trod_lt m _ _ _ hm
  obtain ⟨fu5, hf5⟩ := h5
  obtain ⟨l5, B5, rep5⟩ := ReadsB.arg (ReadsB.map (g := eRequest) (B' := fun (x : TRequest) => ((-9223372036854775808 ≤ x.fn ∧ x.fn ≤ 9223372036854775807) ∧ ((-9223372036854775808 ≤ x.at_ ∧ x.at_ ≤ 9223372036854775807) ∧ ((-9223372036854775808 ≤ x.count ∧ x.count ≤ 9223372036854775807) ∧ ((-9223372036854775808 ≤ x.wAt ∧ x.wAt ≤ 9223372036854775807) ∧ ((-9223372036854775808 ≤ x.sub ∧ x.sub ≤ 9223372036854775807) ∧ ((x.bits.length * 1 ≤ 140737488351232 ∧ ∀ y33 ∈ x.bits, True) ∧ ((x.vals.length * 2 ≤ 140737488351232 ∧ ∀ y34 ∈ x.vals, True) ∧ (True ∧ (True ∧ True)))))))))) (rdB_struct Try.underlying37 rfl (by kernel_rfl) (rdL_cons (t := 3) (B := fun (x : Int) => (-9223372036854775808 ≤ x ∧ x ≤ 9223372036854775807)) 1 (rdB_int Try.underlying3) (by kernel_rfl) (rdL_cons (t := 3) (B := fun (x : Int) => (-9223372036854775808 ≤ x ∧ x ≤ 9223372036854775807)) 1 (rdB_int Try.underlying3) (by kernel_rfl) (rdL_cons (t := 3) (B := fun (x : Int) => (-9223372036854775808 ≤ x ∧ x ≤ 9223372036854775807)) 1 (rdB_int Try.underlying3) (by kernel_rfl) (rdL_cons (t := 3) (B := fun (x : Int) => (-9223372036854775808 ≤ x ∧ x ≤ 9223372036854775807)) 1 (rdB_int Try.underlying3) (by kernel_rfl) (rdL_cons (t := 3) (B := fun (x : Int) => (-9223372036854775808 ≤ x ∧ x ≤ 9223372036854775807)) 1 (rdB_int Try.underlying3) (by kernel_rfl) (rdL_cons (t := 33) (B := fun (x : List Bool) => (x.length * 1 ≤ 140737488351232 ∧ ∀ y33 ∈ x, True)) 1 (rdB_slice (B := fun (x : Bool) => True) Try.underlying33 (rdB_bool Try.underlying4) 1 (by kernel_rfl) (by decide) (m := 1) (by kernel_rfl)) (by kernel_rfl) (rdL_cons (t := 34) (B := fun (x : List UInt16) => (x.length * 2 ≤ 140737488351232 ∧ ∀ y34 ∈ x, True)) 1 (rdB_slice (B := fun (x : UInt16) => True) Try.underlying34 (rdB_u16 Try.underlying35) 1 (by kernel_rfl) (by decide) (m := 2) (by kernel_rfl)) (by kernel_rfl) (rdL_cons (t := 35) (B := fun (x : UInt16) => True) 1 (rdB_u16 Try.underlying35) (by kernel_rfl) (rdL_cons (t := 35) (B := fun (x : UInt16) => True) 1 (rdB_u16 Try.underlying35) (by kernel_rfl) rdL_nil)))))))))) (fun p => (⟨p.1, p.2.1, p.2.2.1, p.2.2.2.1, p.2.2.2.2.1, p.2.2.2.2.2.1, p.2.2.2.2.2.2.1, p.2.2.2.2.2.2.2.1, p.2.2.2.2.2.2.2.2.1⟩ : TRequest)) (fun _ => rfl) (fun _ h => h)) hsz (j := 5) rfl rfl hf5 (fun _ _ => ⟨_, rfl⟩) (fun a h => by cases h)
  obtain ⟨a6, len6, cap6, rfl⟩ := okWide_slice Try.underlying58 (hval 6 58 v6 rfl rfl)
  have k6 := h6
  have lt6 : ∀ x ∈ p6, x.block < W.heap.size := by obtain ⟨m, hm⟩ := k6; exact DataW.trod_lt m _ _ _ hm
  obtain ⟨fu6, hf6⟩ := h6
  obtain ⟨l6, B6, rep6⟩ := ReadsB.arg (rdB_slice (B := fun (x : TReply) => ((-9223372036854775808 ≤ x.fn ∧ x.fn ≤ 9223372036854775807) ∧ ((-9223372036854775808 ≤ x.code ∧ x.code ≤ 9223372036854775807) ∧ ((-9223372036854775808 ≤ x.at_ ∧ x.at_ ≤ 9223372036854775807) ∧ ((-9223372036854775808 ≤ x.count ∧ x.count ≤ 9223372036854775807) ∧ ((-9223372036854775808 ≤ x.sub ∧ x.sub ≤ 9223372036854775807) ∧ ((x.bits.length * 1 ≤ 140737488351232 ∧ ∀ y33 ∈ x.bits, True) ∧ ((x.vals.length * 2 ≤ 140737488351232 ∧ ∀ y34 ∈ x.vals, True) ∧ (True ∧ (True ∧ ((x.data.length * 1 ≤ 140737488351232 ∧ ∀ y60 ∈ x.data, True) ∧ True))))))))))) Try.underlying58 (ReadsB.map (g := eReply) (B' := fun (x : TReply) => ((-9223372036854775808 ≤ x.fn ∧ x.fn ≤ 9223372036854775807) ∧ ((-9223372036854775808 ≤ x.code ∧ x.code ≤ 9223372036854775807) ∧ ((-9223372036854775808 ≤ x.at_ ∧ x.at_ ≤ 9223372036854775807) ∧ ((-9223372036854775808 ≤ x.count ∧ x.count ≤ 9223372036854775807) ∧ ((-9223372036854775808 ≤ x.sub ∧ x.sub ≤ 9223372036854775807) ∧ ((x.bits.length * 1 ≤ 140737488351232 ∧ ∀ y33 ∈ x.bits, True) ∧ ((x.vals.length * 2 ≤ 140737488351232 ∧ ∀ y34 ∈ x.vals, True) ∧ (True ∧ (True ∧ ((x.data.length * 1 ≤ 140737488351232 ∧ ∀ y60 ∈ x.data, True) ∧ True))))))))))) (rdB_struct Try.underlying62 rfl (by kernel_rfl) (rdL_cons (t := 3) (B := fun (x : Int) => (-9223372036854775808 ≤ x ∧ x ≤ 9223372036854775807)) 1 (rdB_int Try.underlying3) (by kernel_rfl) (rdL_cons (t := 3) (B := fun (x : Int) => (-9223372036854775808 ≤ x ∧ x ≤ 9223372036854775807)) 1 (rdB_int Try.underlying3) (by kernel_rfl) (rdL_cons (t := 3) (B := fun (x : Int) => (-9223372036854775808 ≤ x ∧ x ≤ 9223372036854775807)) 1 (rdB_int Try.underlying3) (by kernel_rfl) (rdL_cons (t := 3) (B := fun (x : Int) => (-9223372036854775808 ≤ x ∧ x ≤ 9223372036854775807)) 1 (rdB_int Try.underlying3) (by kernel_rfl) (rdL_cons (t := 3) (B := fun (x : Int) => (-9223372036854775808 ≤ x ∧ x ≤ 9223372036854775807)) 1 (rdB_int Try.underlying3) (by kernel_rfl) (rdL_cons (t := 33) (B := fun (x : List Bool) => (x.length * 1 ≤ 140737488351232 ∧ ∀ y33 ∈ x, True)) 1 (rdB_slice (B := fun (x : Bool) => True) Try.underlying33 (rdB_bool Try.underlying4) 1 (by kernel_rfl) (by decide) (m := 1) (by kernel_rfl)) (by kernel_rfl) (rdL_cons (t := 34) (B := fun (x : List UInt16) => (x.length * 2 ≤ 140737488351232 ∧ ∀ y34 ∈ x, True)) 1 (rdB_slice (B := fun (x : UInt16) => True) Try.underlying34 (rdB_u16 Try.underlying35) 1 (by kernel_rfl) (by decide) (m := 2) (by kernel_rfl)) (by kernel_rfl) (rdL_cons (t := 35) (B := fun (x : UInt16) => True) 1 (rdB_u16 Try.underlying35) (by kernel_rfl) (rdL_cons (t := 35) (B := fun (x : UInt16) => True) 1 (rdB_u16 Try.underlying35) (by kernel_rfl) (rdL_cons (t := 60) (B := fun (x : List UInt8) => (x.length * 1 ≤ 140737488351232 ∧ ∀ y60 ∈ x, True)) 1 (rdB_slice (B := fun (x : UInt8) => True) Try.underlying60 (rdB_u8 Try.underlying5) 1 (by kernel_rfl) (by decide) (m := 1) (by kernel_rfl)) (by kernel_rfl) rdL_nil))))))))))) (fun p => (⟨p.1, p.2.1, p.2.2.1, p.2.2.2.1, p.2.2.2.2.1, p.2.2.2.2.2.1, p.2.2.2.2.2.2.1, p.2.2.2.2.2.2.2.1, p.2.2.2.2.2.2.2.2.1, p.2.2.2.2.2.2.2.2.2.1⟩ : TReply)) (fun _ => rfl) (fun _ h => h)) 10 (by kernel_rfl) (by decide) (m := 120) (by kernel_rfl)) hsz (j := 6) rfl rfl hf6 (fun a h => by cases h) (fun _ _ => rfl)
  clear hA0 hval0 hsz0 hsz
  refine (T.row (w_burgagelaw15_JoinTells l0 false l1 false l2 false a3 l4 l5 l6 false (by have := B0.1; omega) (by have := B1.1; omega) (by have := B2.1; omega) (by have := B4; omega) (by have := B5.1; omega) (by have := B5.2.1; omega) (by have := B6.1; omega) (by intro r hr; have := B6.2 r hr; omega)) (w := W) (vals := [.slice a0 len0 cap0, .slice a1 len1 cap1, .slice a2 len2 cap2, .int .i64 a3, .agg c4, .agg c5, .slice a6 len6 cap6]) ⟨rep0, rep1, rep2, .f (.v _), rep4, rep5, rep6, trivial⟩).mono fun e W' ⟨he, bel⟩ => ?_
  subst he
  exact ⟨_, rfl, _, _, _, [], _, [], hW', trodAll_mk1 (shut_bool Try.underlying4 _), (trodAll_cons_mk (Below.trod laidOut (by kernel_rfl) (of_decide_eq_true (by kernel_rfl)) k0 bel lt0) (trodAll_cons_mk (Below.trod laidOut (by kernel_rfl) (of_decide_eq_true (by kernel_rfl)) k1 bel lt1) (trodAll_cons_mk (Below.trod laidOut (by kernel_rfl) (of_decide_eq_true (by kernel_rfl)) k2 bel lt2) (trodAll_cons_mk (shut_int Try.underlying3 w3) (trodAll_cons_mk (Below.trod laidOut (by kernel_rfl) (of_decide_eq_true (by kernel_rfl)) k4 bel lt4) (trodAll_cons_mk (Below.trod laidOut (by kernel_rfl) (of_decide_eq_true (by kernel_rfl)) k5 bel lt5) (trodAll_cons_mk (Below.trod laidOut (by kernel_rfl) (of_decide_eq_true (by kernel_rfl)) k6 bel lt6) trodAll_mk0))))))), rfl, bel.frame _, fun h => by cases h⟩
theorem over : Rows.joinTellsRow.holds Try.pinned (OpenSpec.ofChange Rows.joinTellsSpec) :=
  OpenClaim.holds_of_wide 9 Try.f9 rfl rfl rfl rfl rfl rfl rfl ⟨rfl, rfl, rfl, rfl, rfl⟩ rfl rfl rfl rfl rfl (by kernel_rfl) Try.func9 (by kernel_rfl)
    (of_decide_eq_true (by kernel_rfl)) (by unfold Func.isWrapper; first | (rw [if_pos (by decide +kernel)]; kernel_rfl) | (rw [if_neg (by decide +kernel)]; exact ⟨rfl, rfl⟩))
    (fun os started H enc _ => lifted os started H enc)
theorem proved : Rows.JoinTellsSaid := over
end Go.Proofs.Ytlcmbkkimgdnmaa.joinTells
namespace Go.Proofs.Ytlcmbkkimgdnmaa
/-- The row, under a short name, for the claim. -/
theorem joinTells_holds : Rows.JoinTellsSaid := joinTells.proved
#print axioms joinTells_holds
end Go.Proofs.Ytlcmbkkimgdnmaa
