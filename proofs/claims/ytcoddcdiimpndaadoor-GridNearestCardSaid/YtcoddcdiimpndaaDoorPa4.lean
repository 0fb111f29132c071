/-
  A place inside a face is its own normal place.
-/
import Derived.Test.YtcoddcdiimpndaaDoorPa3
set_option linter.unusedVariables false
set_option linter.unusedSimpArgs false
namespace Go.Proofs.YtcoddcdiimpndaaDoor
def intN (n : Nat) : Bool := (List.range 20).all fun f => (List.range (n + 1)).all fun a => (List.range (n + 1 - a)).all fun b => !(decide (0 < a) && (decide (0 < b) && decide (a + b < n))) || isNode (plN (840 / n) n f a b)
set_option maxRecDepth 100000 in
theorem intN_all (n : Nat) (h1 : 1 ≤ n) (h8 : n ≤ 8) : intN n = true := by
  have : n = 1 ∨ n = 2 ∨ n = 3 ∨ n = 4 ∨ n = 5 ∨ n = 6 ∨ n = 7 ∨ n = 8 := by omega
  rcases this with rfl | rfl | rfl | rfl | rfl | rfl | rfl | rfl <;> decide +kernel
theorem inner_node (n f a b : Nat) (h1 : 1 ≤ n) (h8 : n ≤ 8) (hf : f < 20) (ha : 0 < a) (hb : 0 < b) (hab : a + b < n) : isNode (plN (840 / n) n f a b) = true := by
  have h := List.all_eq_true.1 (List.all_eq_true.1 (List.all_eq_true.1 (intN_all n h1 h8) f (List.mem_range.2 hf)) a (List.mem_range.2 (by omega))) b (List.mem_range.2 (by omega))
  simpa [ha, hb, hab] using h
end Go.Proofs.YtcoddcdiimpndaaDoor
