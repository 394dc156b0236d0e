/- Two rows, one behind the other: their bytes. -/
import Derived.Test.YtfbmlnajnlekbaaSpecO
namespace Go.Proofs.Ytfbmlnajnlekbaa
open Go Go.Proofs.Ytfbmlnajnlekbaa.Pv

theorem textU_app (l m : List UInt8) : textU l ++ textU m = textU (l ++ m) := by
  apply ByteArray.ext
  simp [textU]
section
variable {P : Program} {tab : Tab} {env : Env} {nx : Nat} {H : Heap} {K : PV → Nat → Heap → Prop} {x y : Operand} {t u : Nat}
theorem s_addT {l m : List UInt8} (h1 : ev env x = some (.f (.v (.string (textU l))))) (h2 : ev env y = some (.f (.v (.string (textU m))))) (hb : l.length + m.length < 4611686018427387904) (h : K (pT (l ++ m)) nx H) : stepOp P tab env nx H K (.binOp .add t x y u) :=
  s_bin h1 h2 ⟨by rw [textU_size, textU_size]; omega, by rw [textU_app]; exact h⟩
end
theorem packL_app {x m : List Bool} (h : x.length % 8 = 0) : packL (x ++ m) = packL x ++ packL m := by
  have e : ((x ++ m).length + 7) / 8 = (x.length + 7) / 8 + (m.length + 7) / 8 := by rw [List.length_append]; omega
  unfold packL
  rw [e, List.range_add, List.map_append, List.map_map]
  congr 1
  · apply map_congr_range
    intro j hj
    apply mk_congr
    intro k hk
    rw [List.getD_eq_getElem?_getD, List.getD_eq_getElem?_getD, List.getElem?_append_left (by omega)]
  · apply map_congr_range
    intro j hj
    simp only [Function.comp]
    apply mk_congr
    intro k hk
    simp only [List.getD_eq_getElem?_getD]
    rw [List.getElem?_append_right (by omega)]
    congr 2
    omega
theorem whole_take (l : List Bool) : (l.take (l.length / 8 * 8)).length % 8 = 0 := by
  rw [List.length_take, Nat.min_eq_left (by omega)]; omega
end Go.Proofs.Ytfbmlnajnlekbaa
