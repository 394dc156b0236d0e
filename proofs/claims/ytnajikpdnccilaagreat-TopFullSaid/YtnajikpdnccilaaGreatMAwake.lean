/- The closed run that each law claims too. -/
import Derived.Test.YtnajikpdnccilaaGreatPvMK
import Derived.Test.YtnajikpdnccilaaGreatProg
import Derived.KernelRfl
set_option maxRecDepth 100000
namespace Go.Proofs.YtnajikpdnccilaaGreat.Pv.M
open Go Go.Proofs
theorem mixed : Tryz.prog.follows .mixedOrders = true := by kernel_rfl
noncomputable section
def D0 : Dm := ⟨[], []⟩
end
noncomputable section
def rA1 : Rule := ⟨46, [.agg [.n .i64 72, .sl 5 91 0 1 (some 1)]], 92, [(87, .cells [.n .i64 3, .n .i64 0, .n .i64 0, .n .i64 40, .n .i64 0, .n .i64 0, .n .i64 0, .n .i64 40]), (89, .cells [.n .i64 0, .n .i64 72]), (91, .cells [.n .i64 1, .n .u32 12812670, .n .i64 2, .sl 4 87 0 2 (some 2), .sl 2 89 0 1 (some 1)])], ⟨[], []⟩, .b true, [], []⟩
def rA2 : Rule := ⟨11, [.ptr 95 0, .n .i64 1], 180, [(87, .cells [.n .i64 3, .n .i64 0, .n .i64 0, .n .i64 40, .n .i64 0, .n .i64 0, .n .i64 0, .n .i64 40]), (89, .cells [.n .i64 0, .n .i64 72]), (91, .cells [.n .i64 1, .n .u32 12812670, .n .i64 2, .sl 4 87 0 2 (some 2), .sl 2 89 0 1 (some 1)]), (93, .cells [.v (.slice none 0 0), .n .i64 0]), (95, .cells [.n .i64 72, .sl 5 91 0 1 (some 1), .n .i64 0, .a .i64 0 [1], .v (.pointer none), .ptr 92 0, .sl 3 117 0 1 none, .ptr 93 0, .mp 94, .n .i64 0]), (115, .cells [.sl 3 179 0 1 none, .n .i64 2, .n .i64 0]), (117, .cells [.ptr 114 0, .ptr 115 0, .ptr 96 0])], ⟨[(0, 70)], []⟩, .v (.slice none 0 0), [(95, .cells [.n .i64 72, .sl 5 91 0 1 (some 1), .n .i64 0, .a .i64 1 [1], .v (.pointer none), .ptr 92 0, .sl 3 117 0 1 none, .ptr 93 0, .mp 94, .n .i64 0])], [(95, 3)]⟩
def rA3 : Rule := ⟨11, [.ptr 95 0, .n .i64 1], 658, [(87, .cells [.n .i64 3, .n .i64 0, .n .i64 0, .n .i64 40, .n .i64 0, .n .i64 0, .n .i64 0, .n .i64 40]), (89, .cells [.n .i64 0, .n .i64 72]), (91, .cells [.n .i64 1, .n .u32 12812670, .n .i64 2, .sl 4 87 0 2 (some 2), .sl 2 89 0 1 (some 1)]), (93, .cells [.sl 3 657 0 1 none, .n .i64 1]), (95, .cells [.n .i64 72, .sl 5 91 0 1 (some 1), .n .i64 0, .a .i64 0 [1], .v (.pointer none), .ptr 92 0, .sl 3 117 0 1 none, .ptr 93 0, .mp 94, .n .i64 1]), (115, .cells [.sl 3 199 0 0 (some 0), .n .i64 2, .n .i64 0]), (117, .cells [.ptr 114 0, .ptr 115 0, .ptr 96 0]), (657, .cells [.n .i64 143, .n .i64 0, .n .i64 0])], ⟨[(72, 141)], []⟩, .v (.slice none 0 0), [(95, .cells [.n .i64 72, .sl 5 91 0 1 (some 1), .n .i64 0, .a .i64 1 [1], .v (.pointer none), .ptr 92 0, .sl 3 117 0 1 none, .ptr 93 0, .mp 94, .n .i64 1])], [(95, 3)]⟩
end
theorem rA1_ok : RuleOk Tryz.prog rA1 ∧ onceB rA1.out = true := ruleB_ok (gs := []) (n := 1000) mixed rules_nil (by kernel_rfl)
theorem rA2_ok : RuleOk Tryz.prog rA2 ∧ onceB rA2.out = true := ruleB_ok (gs := []) (n := 1000) mixed (rules_cons rA1_ok rules_nil) (by kernel_rfl)
theorem rA3_ok : RuleOk Tryz.prog rA3 ∧ onceB rA3.out = true := ruleB_ok (gs := []) (n := 1000) mixed (rules_cons rA1_ok rules_nil) (by kernel_rfl)
theorem okD0 (ρ : Nat → Int) : OkD D0 ρ := ⟨fun i b h => by simp [D0] at h, fun f h => by simp [D0] at h⟩
theorem awake_ans (ρ : Nat → Int) : Ans ρ Tryz.prog 14 [] (.b true) := Ans.of mixed (okD0 ρ) facts_nil (rules_cons rA1_ok (rules_cons rA2_ok (rules_cons rA3_ok rules_nil))) (gs := [6, 23, 17, 11]) (n := 1000) (by kernel_rfl)
end Go.Proofs.YtnajikpdnccilaaGreat.Pv.M
