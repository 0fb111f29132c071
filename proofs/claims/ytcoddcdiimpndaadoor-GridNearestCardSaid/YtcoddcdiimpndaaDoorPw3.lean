/-
  The walks of the reference of layer 2 (places): the corners, the weights, whether weights lie on a face.
-/
import Derived.Test.YtcoddcdiimpndaaDoorPw1
set_option linter.unusedVariables false
set_option linter.unusedSimpArgs false
namespace Go.Proofs.YtcoddcdiimpndaaDoor
open Go.RowKit

set_option maxHeartbeats 8000000 in
theorem corners2_any (n : Nat) (hn : n < 20) (w : World) : Calls Tryd.prog 71 #[.int .i64 n] w fun e w' =>
    e = .returned (.tuple #[.agg #[.int .i64 (cor n 0 : Nat), .int .i64 (cor n 1 : Nat), .int .i64 (cor n 2 : Nat)], .int .i64 0]) ∧ w.alloc (.cells #[.int .i64 (cor n 0 : Nat), .int .i64 (cor n 1 : Nat), .int .i64 (cor n 2 : Nat)] 75) = w' := by
  have h20 : n = 0 ∨ n = 1 ∨ n = 2 ∨ n = 3 ∨ n = 4 ∨ n = 5 ∨ n = 6 ∨ n = 7 ∨ n = 8 ∨ n = 9 ∨ n = 10 ∨ n = 11 ∨ n = 12 ∨ n = 13 ∨ n = 14 ∨ n = 15 ∨ n = 16 ∨ n = 17 ∨ n = 18 ∨ n = 19 := by omega
  clear hn
  rcases h20 with rfl | rfl | rfl | rfl | rfl | rfl | rfl | rfl | rfl | rfl | rfl | rfl | rfl | rfl | rfl | rfl | rfl | rfl | rfl | rfl
  all_goals
    go_enter Tryd.func71, Tryd.ntmps71
    go_wp2
    refine bodyPost_ret (by simp [results, Tryd.results71, go_sem]; decide) rfl ⟨rfl, rfl⟩

set_option maxHeartbeats 2000000 in
theorem valid2_any (f a b c : Int) (w : World) : Calls Tryd.prog 32 #[.agg #[.int .i64 f, .int .i64 a, .int .i64 b, .int .i64 c]] w fun e w' => e = .returned (.bool (validB f a b c)) ∧ Below w.heap.size w w' := by
  go_enter Tryd.func32, Tryd.ntmps32
  go_wp2
  all_goals go_ret
  all_goals
    refine ⟨ret_bool ?_, (Below.refl _ _).alloc (Nat.le_refl _) _⟩
    unfold validB
    rw [Bool.eq_iff_iff]
    simp only [decide_eq_true_eq, beq_iff_eq, Bool.false_eq_true, false_iff]
    omega

set_option maxHeartbeats 2000000 in
theorem weights_core (n : Nat) (hn : n < 20) (c0 c1 c2 : Nat) (k0 : c0 < 12) (k1 : c1 < 12) (k2 : c2 < 12) (n1 : c0 ≠ c1) (n2 : c0 ≠ c2) (n3 : c1 ≠ c2) (a b c : Int) (w : World)
    (hcor : ∀ W : World, Calls Tryd.prog 71 #[.int .i64 n] W fun e w' => e = .returned (.tuple #[.agg #[.int .i64 c0, .int .i64 c1, .int .i64 c2], .int .i64 0]) ∧ W.alloc (.cells #[.int .i64 c0, .int .i64 c1, .int .i64 c2] 75) = w')
    (Y : Nat → Int) (hY : ∀ j, j < 12 → ∀ h, (((([.int .i64 0, .int .i64 0, .int .i64 0, .int .i64 0, .int .i64 0, .int .i64 0, .int .i64 0, .int .i64 0, .int .i64 0, .int .i64 0, .int .i64 0, .int .i64 0] : List Value).set c0 (.int .i64 a)).set c1 (.int .i64 b)).set c2 (.int .i64 c))[j]'h = .int .i64 (Y j)) :
    Calls Tryd.prog 62 #[.agg #[.int .i64 n, .int .i64 a, .int .i64 b, .int .i64 c]] w fun e w' =>
      e = .returned (.agg #[.int .i64 (Y 0), .int .i64 (Y 1), .int .i64 (Y 2), .int .i64 (Y 3), .int .i64 (Y 4), .int .i64 (Y 5), .int .i64 (Y 6), .int .i64 (Y 7), .int .i64 (Y 8), .int .i64 (Y 9), .int .i64 (Y 10), .int .i64 (Y 11)]) ∧ Below w.heap.size w w' := by
  have m0 : (c0 : Int) < 12 := by omega
  have m1 : (c1 : Int) < 12 := by omega
  have m2 : (c2 : Int) < 12 := by omega
  have HC := Lib.hid hcor
  have y0 := hY 0 (by omega)
  have y1 := hY 1 (by omega)
  have y2 := hY 2 (by omega)
  have y3 := hY 3 (by omega)
  have y4 := hY 4 (by omega)
  have y5 := hY 5 (by omega)
  have y6 := hY 6 (by omega)
  have y7 := hY 7 (by omega)
  have y8 := hY 8 (by omega)
  have y9 := hY 9 (by omega)
  have y10 := hY 10 (by omega)
  have y11 := hY 11 (by omega)
  clear hY hcor
  go_enter Tryd.func62, Tryd.ntmps62
  go_wp2_with fail
  refine (HC.out _).mono ?_
  rintro e w1 ⟨rfl, rfl⟩
  go_wp2
  go_region
  go_wp2
  refine bodyPost_ret (v := .agg #[.int .i64 (Y 0), .int .i64 (Y 1), .int .i64 (Y 2), .int .i64 (Y 3), .int .i64 (Y 4), .int .i64 (Y 5), .int .i64 (Y 6), .int .i64 (Y 7), .int .i64 (Y 8), .int .i64 (Y 9), .int .i64 (Y 10), .int .i64 (Y 11)]) (by simp [results, Tryd.results62, go_sem]) rfl ⟨rfl, ?_⟩
  refine Below.drew ?_
  repeat (first | refine below_alloc ?_ _ | refine Below.drew ?_)
  exact Below.refl _ _

theorem weights_any (f a b c : Int) (hf0 : 0 ≤ f) (hf1 : f < 20) (w : World) :
    Calls Tryd.prog 62 #[.agg #[.int .i64 f, .int .i64 a, .int .i64 b, .int .i64 c]] w fun e w' =>
      e = .returned (.agg #[.int .i64 (wt f a b c 0), .int .i64 (wt f a b c 1), .int .i64 (wt f a b c 2), .int .i64 (wt f a b c 3), .int .i64 (wt f a b c 4), .int .i64 (wt f a b c 5), .int .i64 (wt f a b c 6), .int .i64 (wt f a b c 7), .int .i64 (wt f a b c 8), .int .i64 (wt f a b c 9), .int .i64 (wt f a b c 10), .int .i64 (wt f a b c 11)]) ∧ Below w.heap.size w w' := by
  obtain ⟨n, rfl⟩ := Int.eq_ofNat_of_zero_le hf0
  have hn : n < 20 := by omega
  obtain ⟨k0, k1, k2, n1, n2, n3⟩ := cor_lt n hn
  refine weights_core n hn _ _ _ k0 k1 k2 n1 n2 n3 a b c w (corners2_any n hn) (wt n a b c) ?_
  intro j hj h
  rw [set12 _ _ _ k0 k1 k2 a b c j hj h]
  unfold wt
  rw [show Int.toNat (n : Int) = n from rfl]
  by_cases h0 : j = cor n 0
  · rw [if_pos h0, if_neg (by omega), if_neg (by omega), if_pos h0]
  · rw [if_neg h0, if_neg h0]
    by_cases h1 : j = cor n 1
    · rw [if_pos h1, if_neg (by omega), if_pos h1]
    · rw [if_neg h1, if_neg h1]
end Go.Proofs.YtcoddcdiimpndaaDoor
