/-
  The walks of the reference of layer 2: the address of weights on a face; all addresses; the normal place; whether a place is normal.
-/
import Derived.Test.YtcoddcdiimpndaaDoorPw3
import Derived.OwnWalk
import Derived.Deep.AppendLies
set_option linter.unusedVariables false
set_option linter.unusedSimpArgs false
namespace Go.Proofs.YtcoddcdiimpndaaDoor
open Go.RowKit

set_option maxHeartbeats 2000000 in
theorem on2_core (n : Nat) (hn : n < 20) (c0 c1 c2 : Nat) (k0 : c0 < 12) (k1 : c1 < 12) (k2 : c2 < 12) (X : Nat → Int) (w : World)
    (b0 : 0 ≤ X c0) (b1 : 0 ≤ X c1) (b2 : 0 ≤ X c2) (d0 : X c0 ≤ 840) (d1 : X c1 ≤ 840) (d2 : X c2 ≤ 840)
    (hcor : ∀ W : World, Calls Tryd.prog 71 #[.int .i64 n] W fun e w' => e = .returned (.tuple #[.agg #[.int .i64 c0, .int .i64 c1, .int .i64 c2], .int .i64 0]) ∧ W.alloc (.cells #[.int .i64 c0, .int .i64 c1, .int .i64 c2] 75) = w') :
    Calls Tryd.prog 63 #[.int .i64 n, .agg #[.int .i64 (X 0), .int .i64 (X 1), .int .i64 (X 2), .int .i64 (X 3), .int .i64 (X 4), .int .i64 (X 5), .int .i64 (X 6), .int .i64 (X 7), .int .i64 (X 8), .int .i64 (X 9), .int .i64 (X 10), .int .i64 (X 11)]] w fun e w' =>
      e = .returned (.tuple #[.agg #[.int .i64 n, .int .i64 (X c0), .int .i64 (X c1), .int .i64 (X c2)], .bool (X c0 + X c1 + X c2 == 840)]) ∧ Below w.heap.size w w' := by
  have X0 := list12 X c0 k0
  have X1 := list12 X c1 k1
  have X2 := list12 X c2 k2
  have m0 : (c0 : Int) < 12 := by omega
  have m1 : (c1 : Int) < 12 := by omega
  have m2 : (c2 : Int) < 12 := by omega
  have HC := Lib.hid hcor
  clear hcor
  go_enter Tryd.func63, Tryd.ntmps63
  go_wp2_with fail
  refine (HC.out _).mono ?_
  rintro e w1 ⟨rfl, rfl⟩
  go_wp2
  go_region
  go_wp2
  clear X0 X1 X2
  go_region
  go_wp2
  refine bodyPost_ret (v := .tuple #[.agg #[.int .i64 n, .int .i64 (X c0), .int .i64 (X c1), .int .i64 (X c2)], .bool (X c0 + X c1 + X c2 == 840)]) (by simp [results, Tryd.results63, go_sem]) rfl ⟨rfl, ?_⟩
  repeat (first | refine below_alloc ?_ _ | refine Below.drew ?_)
  exact Below.refl _ _

theorem on2_any (n : Nat) (hn : n < 20) (X : Nat → Int) (hX : ∀ j, 0 ≤ X j ∧ X j ≤ 840) (w : World) :
    Calls Tryd.prog 63 #[.int .i64 n, .agg #[.int .i64 (X 0), .int .i64 (X 1), .int .i64 (X 2), .int .i64 (X 3), .int .i64 (X 4), .int .i64 (X 5), .int .i64 (X 6), .int .i64 (X 7), .int .i64 (X 8), .int .i64 (X 9), .int .i64 (X 10), .int .i64 (X 11)]] w fun e w' =>
      e = .returned (.tuple #[.agg #[.int .i64 n, .int .i64 (X (cor n 0)), .int .i64 (X (cor n 1)), .int .i64 (X (cor n 2))], .bool (X (cor n 0) + X (cor n 1) + X (cor n 2) == 840)]) ∧ Below w.heap.size w w' := by
  obtain ⟨k0, k1, k2, _⟩ := cor_lt n hn
  exact on2_core n hn _ _ _ k0 k1 k2 X w (hX _).1 (hX _).1 (hX _).1 (hX _).2 (hX _).2 (hX _).2 (corners2_any n hn)
end Go.Proofs.YtcoddcdiimpndaaDoor
