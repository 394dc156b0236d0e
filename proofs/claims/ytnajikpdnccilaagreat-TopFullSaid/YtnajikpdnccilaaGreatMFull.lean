/- What a full queue has no room for is refused: the law. -/
import Derived.Test.YtnajikpdnccilaaGreatPvMK
import Derived.Test.YtnajikpdnccilaaGreatProg
import Derived.Test.YtnajikpdnccilaaGreatMFull0
import Derived.Test.YtnajikpdnccilaaGreatMFull1
import Derived.Test.YtnajikpdnccilaaGreatMFull2
import Derived.Test.YtnajikpdnccilaaGreatMFull3
import Derived.KernelRfl
set_option maxRecDepth 100000
namespace Go.Proofs.YtnajikpdnccilaaGreat.Pv.M
open Go Go.Proofs
theorem full_run (m : Int) (h : 0 ≤ m ∧ m < 8) : fullRun m = true := by
  have : m = 0 ∨ m = 1 ∨ m = 2 ∨ m = 3 ∨ m = 4 ∨ m = 5 ∨ m = 6 ∨ m = 7 := by omega
  rcases this with rfl | rfl | rfl | rfl | rfl | rfl | rfl | rfl
  · exact full0
  · exact full1
  · exact full2
  · exact full3
  · exact full4
  · exact full5
  · exact full6
  · exact full7
theorem full_law (n g : Int) (hn : (-9223372036854775808) ≤ n ∧ n ≤ 9223372036854775807) (hg : (-9223372036854775808) ≤ g ∧ g ≤ 9223372036854775807) (w : World) : Calls Tryz.prog 3 [Value.int .i64 n, Value.int .i64 g].toArray w fun e w' => e = .returned (.bool true) ∧ RowKit.Below w.heap.size w w' := by
  have hD : OkD dF (vars (n / 8) g 0) := okDmn ⟨by omega, by omega⟩ hg ⟨by omega, by omega⟩
  have hfs : FactsOk (vars (n / 8) g 0) Tryz.prog fsF := facts_cons (gap_ok _ _ _ ⟨by omega, by omega⟩ hg ⟨by omega, by omega⟩) (facts_cons (awakeF_ok _) facts_nil)
  have h := Ans.of mixed hD hfs (rules_cons rF1_ok (rules_cons rF2_ok rules_nil)) (full_run (n % 8) ⟨by omega, by omega⟩)
  refine h.row rfl fun i a v h1 h2 φ nx => ?_
  match i with
  | 0 => simp at h1 h2; subst h1 h2; rw [int_rel]; simp [dot, vars]; omega
  | 1 => simp at h1 h2; subst h1 h2; rw [int_rel]; simp [dot, vars]
  | i + 2 => simp at h1
end Go.Proofs.YtnajikpdnccilaaGreat.Pv.M
