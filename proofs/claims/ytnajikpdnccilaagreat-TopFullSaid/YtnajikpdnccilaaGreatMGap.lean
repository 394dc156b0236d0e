/- The gap between slots, as a table takes it. -/
import Derived.Test.YtnajikpdnccilaaGreatPvMK
import Derived.Test.YtnajikpdnccilaaGreatProg
import Derived.Test.YtnajikpdnccilaaGreatMAwake
import Derived.KernelRfl
set_option maxRecDepth 100000
namespace Go.Proofs.YtnajikpdnccilaaGreat.Pv.M
open Go Go.Proofs
/-- The gap, as a table takes it. -/
def clamp (x : Int) : Int := if x < 0 then 0 else if 100 < x then 100 else x
/-- A run's variables: one of the law's own, the gap as it is taken, the gap, one more. -/
def vars (q g z : Int) (i : Nat) : Int := match i with | 0 => q | 1 => clamp g | 2 => g | 3 => z | _ => 0
noncomputable def dmn (q0 q1 g0 g1 z0 z1 : Int) : Dm := ⟨[(q0, q1), (0, 100), (g0, g1), (z0, z1)], []⟩
theorem clamp_in (g : Int) : 0 ≤ clamp g ∧ clamp g ≤ 100 := by unfold clamp; split <;> (try split) <;> omega
theorem okDmn {q g z q0 q1 g0 g1 z0 z1 : Int} (h1 : q0 ≤ q ∧ q ≤ q1) (h2 : g0 ≤ g ∧ g ≤ g1) (h3 : z0 ≤ z ∧ z ≤ z1) : OkD (dmn q0 q1 g0 g1 z0 z1) (vars q g z) := by
  refine ⟨fun i b hb => ?_, fun f hf => by simp [dmn] at hf⟩
  match i with
  | 0 => simp [dmn] at hb; subst hb; exact h1
  | 1 => simp [dmn] at hb; subst hb; exact clamp_in g
  | 2 => simp [dmn] at hb; subst hb; exact h2
  | 3 => simp [dmn] at hb; subst hb; exact h3
  | i + 4 => simp [dmn] at hb
noncomputable def gapF : Fact := ⟨21, [.a .i64 0 [0, 0, 1], .n .i64 0, .n .i64 100], .a .i64 0 [0, 1]⟩
theorem same_args {ρ ρ' : Nat → Int} {args : List MV} (h : ∀ a ∈ args, ∀ φ nx, Alike ρ φ nx ρ' a a) : ∀ (i : Nat) a a', args[i]? = some a → args[i]? = some a' → ∀ φ nx, Alike ρ φ nx ρ' a a' := fun i a a' h1 h2 => by
  rw [h1] at h2; cases h2; exact h a (List.mem_of_getElem? h1)
theorem gap_ok (q g z : Int) (hq : (-9223372036854775808) ≤ q ∧ q ≤ 9223372036854775807) (h : (-9223372036854775808) ≤ g ∧ g ≤ 9223372036854775807) (hz : (-9223372036854775808) ≤ z ∧ z ≤ 9223372036854775807) : FactOk (vars q g z) Tryz.prog gapF := by
  refine ⟨by kernel_rfl, by kernel_rfl, ?_⟩
  have same : ∀ {r : MV}, Ans (vars q g z) Tryz.prog gapF.g gapF.args r → noneV r = true → (∀ φ nx, Alike (vars q g z) φ nx (vars q g z) gapF.res r) → Ans (vars q g z) Tryz.prog gapF.g gapF.args gapF.res :=
    fun h1 h2 h3 => h1.alike rfl (same_args fun a _ φ nx u => Iff.rfl) h3 h2
  by_cases h1 : g < 0
  · refine same (r := .n .i64 0) (Ans.of mixed (okDmn (q0 := (-9223372036854775808)) (q1 := 9223372036854775807) (g0 := (-9223372036854775808)) (g1 := -1) (z0 := (-9223372036854775808)) (z1 := 9223372036854775807) hq ⟨h.1, by omega⟩ hz) facts_nil rules_nil (gs := []) (n := 5) ?_) rfl fun φ nx u => ?_
    · kernel_rfl
    · rw [show gapF.res = MV.a .i64 0 [0, 1] from rfl, int_rel, num_rel]; simp [dot, vars, clamp, h1]
  · by_cases h2 : 100 < g
    · refine same (r := .n .i64 100) (Ans.of mixed (okDmn (q0 := (-9223372036854775808)) (q1 := 9223372036854775807) (g0 := 101) (g1 := 9223372036854775807) (z0 := (-9223372036854775808)) (z1 := 9223372036854775807) hq ⟨by omega, h.2⟩ hz) facts_nil rules_nil (gs := []) (n := 5) ?_) rfl fun φ nx u => ?_
      · kernel_rfl
      · rw [show gapF.res = MV.a .i64 0 [0, 1] from rfl, int_rel, num_rel]; simp [dot, vars, clamp, h1, h2]
    · refine same (r := .a .i64 0 [0, 0, 1]) (Ans.of mixed (okDmn (q0 := (-9223372036854775808)) (q1 := 9223372036854775807) (g0 := 0) (g1 := 100) (z0 := (-9223372036854775808)) (z1 := 9223372036854775807) hq ⟨by omega, by omega⟩ hz) facts_nil rules_nil (gs := []) (n := 5) ?_) rfl fun φ nx u => ?_
      · kernel_rfl
      · rw [show gapF.res = MV.a .i64 0 [0, 1] from rfl, int_rel, int_rel]; simp [dot, vars, clamp, h1, h2]
noncomputable def awakeF : Fact := ⟨14, [], .b true⟩
theorem awakeF_ok (ρ : Nat → Int) : FactOk ρ Tryz.prog awakeF := ⟨by kernel_rfl, by kernel_rfl, awake_ans ρ⟩
end Go.Proofs.YtnajikpdnccilaaGreat.Pv.M
