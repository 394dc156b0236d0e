/- What a full queue has no room for is refused: rules. -/
import Derived.Test.YtnajikpdnccilaaGreatPvMK
import Derived.Test.YtnajikpdnccilaaGreatProg
import Derived.Test.YtnajikpdnccilaaGreatMGap
import Derived.KernelRfl
set_option maxRecDepth 100000
namespace Go.Proofs.YtnajikpdnccilaaGreat.Pv.M
open Go Go.Proofs
noncomputable section
def rF1 : Rule := ⟨46, [.agg [.a .i64 72 [0, 1], .sl 5 11 0 1 none]], 12, [(3, .cells [.n .i64 0, .n .i64 72]), (9, .cells [.n .i64 3, .n .i64 0, .n .i64 0, .n .i64 40, .n .i64 0, .n .i64 0, .n .i64 0, .n .i64 40]), (11, .cells [.n .i64 1, .n .u32 12812670, .n .i64 2, .sl 4 9 0 2 none, .sl 2 3 0 1 (some 1)])], ⟨[(-1152921504606846976, 1152921504606846975), (0, 100)], []⟩, .b true, [], [(1000000, 0), (1000000, 1)]⟩
def rF2 : Rule := ⟨46, [.agg [.a .i64 72 [0, 1], .sl 5 30 0 1 (some 1)]], 31, [(26, .cells [.n .i64 3, .n .i64 0, .n .i64 0, .n .i64 40, .n .i64 0, .n .i64 0, .n .i64 0, .n .i64 40]), (28, .cells [.n .i64 0, .n .i64 72]), (30, .cells [.n .i64 1, .n .u32 12812670, .n .i64 2, .sl 4 26 0 2 (some 2), .sl 2 28 0 1 (some 1)])], ⟨[(-1152921504606846976, 1152921504606846975), (0, 100)], []⟩, .b true, [], [(1000000, 0), (1000000, 1)]⟩
end
theorem rF1_ok : RuleOk Tryz.prog rF1 ∧ onceB rF1.out = true := ruleB_ok (gs := []) (n := 1000) mixed rules_nil (by kernel_rfl)
theorem rF2_ok : RuleOk Tryz.prog rF2 ∧ onceB rF2.out = true := ruleB_ok (gs := []) (n := 1000) mixed rules_nil (by kernel_rfl)
noncomputable abbrev dF : Dm := dmn (-1152921504606846976) 1152921504606846975 (-9223372036854775808) 9223372036854775807 0 0
noncomputable abbrev fsF : List Fact := [gapF, awakeF]
noncomputable abbrev rsF : List Rule := [rF1, rF2]
noncomputable abbrev fullRun (m : Int) : Bool := runX Tryz.prog dF fsF rsF [] 1000 3 [.a .i64 m [8], .a .i64 0 [0, 0, 1]] 0 [] (fun v _ _ => eqV v (.b true))
end Go.Proofs.YtnajikpdnccilaaGreat.Pv.M
