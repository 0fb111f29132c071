/-
  How many nodes a grid has.
-/
import Derived.Test.YtcoddcdiimpndaaDoorPa6
set_option linter.unusedVariables false
set_option linter.unusedSimpArgs false
namespace Go.Proofs.YtcoddcdiimpndaaDoor
set_option maxRecDepth 100000 in
theorem nodes_count (n : Nat) (h1 : 1 ≤ n) (h8 : n ≤ 8) : (nodes n).length = 10 * (n * n) + 2 := by
  have : n = 1 ∨ n = 2 ∨ n = 3 ∨ n = 4 ∨ n = 5 ∨ n = 6 ∨ n = 7 ∨ n = 8 := by omega
  rcases this with rfl | rfl | rfl | rfl | rfl | rfl | rfl | rfl <;> decide +kernel
theorem nodes_len (m : Nat) (h1 : 1 ≤ m) (h8 : m ≤ 8) : 0 < (nodes m).length ∧ (nodes m).length ≤ 1000000 := by
  rw [nodes_count m h1 h8]
  have : m * m ≤ 8 * 8 := Nat.mul_le_mul h8 h8
  omega
end Go.Proofs.YtcoddcdiimpndaaDoor
