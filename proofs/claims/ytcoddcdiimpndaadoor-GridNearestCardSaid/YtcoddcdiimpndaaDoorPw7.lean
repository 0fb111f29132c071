/-
  The walk of the reference of layer 2: whether a place is normal.
-/
import Derived.Test.YtcoddcdiimpndaaDoorPw6
import Derived.Test.YtcoddcdiimpndaaDoorPv1
set_option linter.unusedVariables false
set_option linter.unusedSimpArgs false
namespace Go.Proofs.YtcoddcdiimpndaaDoor
open Go.RowKit
attribute [local go_sem high] eqlP neqP eqgP
/-- Is a place valid and normal? -/
def isNB (f a b c : Int) : Bool := validB f a b c && (f == nf f a b c && (a == nc f a b c 0 && (b == nc f a b c 1 && c == nc f a b c 2)))
set_option maxHeartbeats 2000000 in
theorem isNormal_any (f a b c : Int) (w : World) :
    Calls Tryd.prog 41 #[.agg #[.int .i64 f, .int .i64 a, .int .i64 b, .int .i64 c]] w fun e w' =>
      e = .returned (.bool (isNB f a b c)) ∧ Below w.heap.size w w' := by
  cases hv : validB f a b c
  · have e : isNB f a b c = false := by simp [isNB, hv]
    rw [e]
    clear e
    go_enter Tryd.func41, Tryd.ntmps41
    go_wp2_with fail
    refine (normal2_no f a b c hv _).mono ?_
    rintro e w1 ⟨rfl, hb1⟩
    have hbw1 : Below w.heap.size w w1 := below_then ((Below.refl _ _).alloc (Nat.le_refl _) _) hb1 (by simp)
    have HBW1 := Lib.hid hbw1
    clear hbw1 hb1 hv
    go_wp2
    go_ret
    exact ⟨rfl, below_alloc HBW1.out _⟩
  · have e : isNB f a b c = (f == nf f a b c && (a == nc f a b c 0 && (b == nc f a b c 1 && c == nc f a b c 2))) := by simp [isNB, hv]
    rw [e]
    clear e
    go_enter Tryd.func41, Tryd.ntmps41
    go_wp2_with fail
    refine (normal2_yes f a b c hv _).mono ?_
    rintro e w1 ⟨rfl, hb1⟩
    have hs1 := hb1.size
    simp at hs1
    have B0 : w1.heap[w.heap.size]? = some (.cells #[.int .i64 f, .int .i64 a, .int .i64 b, .int .i64 c] 23 (0, 0)) := blk_below hb1 (blk_new w _) (by simp only [World.size_alloc]; omega)
    have p0 := blk_cell B0 0 (.int .i64 f) rfl
    have p1 := blk_cell B0 1 (.int .i64 a) rfl
    have p2 := blk_cell B0 2 (.int .i64 b) rfl
    have p3 := blk_cell B0 3 (.int .i64 c) rfl
    have hbw1 : Below w.heap.size w w1 := below_then ((Below.refl _ _).alloc (Nat.le_refl _) _) hb1 (by simp)
    have HBW1 := Lib.hid hbw1
    have hl : w.heap.size < w1.heap.size := by omega
    clear hbw1 hb1 hv B0
    go_wp2
    go_ret
    exact ⟨rfl, below_alloc HBW1.out _⟩
end Go.Proofs.YtcoddcdiimpndaaDoor
