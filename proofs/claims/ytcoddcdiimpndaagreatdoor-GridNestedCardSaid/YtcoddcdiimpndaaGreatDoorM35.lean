/-
  The reference's Count and Nodes.
-/
import Derived.Test.YtcoddcdiimpndaaGreatDoorM30
import Derived.Test.YtcoddcdiimpndaaGreatDoorM13
import Derived.Test.YtcoddcdiimpndaaGreatDoorM14
import Derived.Deep.RegionLaw
import Derived.Deep.RegionHeldLaw
set_option linter.unusedVariables false
set_option linter.unusedSimpArgs false
namespace Go.Proofs.YtcoddcdiimpndaaGreatDoor
open Go.RowKit
theorem rcount_any (n : Int) (w : World) : Calls Tryz.prog 19 #[.int .i64 n] w fun e w' => e = .returned (.int .i64 (gCount n)) ∧ w = w' := by
  cases hq : freqB n
  · have hg : gCount n = 0 := by simp [gCount, hq]
    have hn : ¬ (1 ≤ n ∧ n ≤ 8) := by simpa [freqB] using hq
    rw [hg]
    clear hg
    by_cases h1 : n < 1
    · have hd : decide (n < 1) = true := decide_eq_true h1
      go_enter Tryz.func19, Tryz.ntmps19
      go_wp2
      go_ret
      exact ⟨rfl, rfl⟩
    · have hd : decide (n < 1) = false := decide_eq_false h1
      have hd8 : decide (8 < n) = true := decide_eq_true (by omega)
      have h8 : 8 < n := by omega
      go_enter Tryz.func19, Tryz.ntmps19
      go_wp2
      go_ret
      exact ⟨rfl, rfl⟩
  · have hg : gCount n = 10 * (n * n) + 2 := by simp [gCount, hq]
    rw [hg]
    have hn : 1 ≤ n ∧ n ≤ 8 := by simpa [freqB] using hq
    have h64 : n * n ≤ 8 * 8 := Int.mul_le_mul hn.2 hn.2 (by omega) (by omega)
    have hnn : 0 ≤ n * n := Int.mul_nonneg (by omega) (by omega)
    have he : 10 * n * n = 10 * (n * n) := Int.mul_assoc ..
    have hd : decide (n < 1) = false := decide_eq_false (by omega)
    have hd8 : decide (8 < n) = false := decide_eq_false (by omega)
    have h1 := hn.1
    have h8 := hn.2
    clear hg hq
    go_enter Tryz.func19, Tryz.ntmps19
    go_wp2
    go_ret
    exact ⟨rfl, rfl⟩
end Go.Proofs.YtcoddcdiimpndaaGreatDoor
