/-
  The walks of the reference of layer 2: the normal place, and whether a place is normal.
-/
import Derived.Test.YtcoddcdiimpndaaDoorPw5
set_option linter.unusedVariables false
set_option linter.unusedSimpArgs false
namespace Go.Proofs.YtcoddcdiimpndaaDoor
open Go.RowKit

theorem wt_bounds (f a b c : Int) (hv : validB f a b c = true) (j : Nat) : 0 ≤ wt f a b c j ∧ wt f a b c j ≤ 840 := by
  obtain ⟨_, _, h⟩ := (validB_iff ..).1 hv
  unfold wt
  split
  · omega
  split
  · omega
  split
  · omega
  · omega
theorem okS_okAt (f a b c : Int) (hv : validB f a b c = true) (n : Nat) (hn : n < 20) : okS (wt f a b c) n = okAt (wt f a b c) n := by
  unfold okS okAt
  have h0 := wt_bounds f a b c hv (cor n 0)
  have h1 := wt_bounds f a b c hv (cor n 1)
  have h2 := wt_bounds f a b c hv (cor n 2)
  unfold validB
  rw [Bool.eq_iff_iff]
  simp only [decide_eq_true_eq, beq_iff_eq]
  omega
theorem adr_head (f a b c : Int) (hv : validB f a b c = true) : (adrTo (wt f a b c) 20)[0]? = some (plAt (wt f a b c) (nf f a b c)) := by
  obtain ⟨h1, _, h2, h3⟩ := nf_spec f a b c hv
  unfold adrTo
  rw [List.getElem?_map, ← List.head?_eq_getElem?, List.head?_filter]
  have hf : (List.range 20).find? (okS (wt f a b c)) = some (nf f a b c) := by
    rw [List.find?_range_eq_some]
    refine ⟨by rw [okS_okAt f a b c hv _ h1]; exact h2, List.mem_range.2 h1, fun j hj => ?_⟩
    rw [okS_okAt f a b c hv j (by omega), h3 j hj]
    rfl
  rw [hf]
  rfl

set_option maxHeartbeats 2000000 in
theorem addresses_no (f a b c : Int) (hv : validB f a b c = false) (w : World) :
    Calls Tryd.prog 40 #[.agg #[.int .i64 f, .int .i64 a, .int .i64 b, .int .i64 c]] w fun e w' =>
      e = .returned (.tuple #[.slice none 0 0, .int .i64 1]) ∧ Below w.heap.size w w' := by
  go_enter Tryd.func40, Tryd.ntmps40
  go_wp2_with fail
  refine (valid2_any _ _ _ _ _).mono ?_
  rintro e w1 ⟨rfl, hb1⟩
  rw [hv]
  go_wp2
  go_ret2
  exact ⟨rfl, below_then ((Below.refl _ _).alloc (Nat.le_refl _) _) hb1 (by simp)⟩

set_option maxHeartbeats 2000000 in
theorem normal2_no (f a b c : Int) (hv : validB f a b c = false) (w : World) :
    Calls Tryd.prog 28 #[.agg #[.int .i64 f, .int .i64 a, .int .i64 b, .int .i64 c]] w fun e w' =>
      e = .returned (.tuple #[.agg #[.int .i64 0, .int .i64 0, .int .i64 0, .int .i64 0], .int .i64 1]) ∧ Below w.heap.size w w' := by
  go_enter Tryd.func28, Tryd.ntmps28
  go_wp2_with fail
  refine (addresses_no f a b c hv _).mono ?_
  rintro e w1 ⟨rfl, hb1⟩
  have hs1 := hb1.size
  simp at hs1
  have B1 : w1.heap[w.heap.size + 1]? = some (.cells #[.int .i64 0, .int .i64 0, .int .i64 0, .int .i64 0] 23 (0, 0)) := blk_below hb1 (by simpa using blk_new (w.alloc _) _) (by simp)
  have hbw1 : Below w.heap.size w w1 := below_then (((Below.refl _ _).alloc (Nat.le_refl _) _).alloc (by simp) _) hb1 (by simp; omega)
  have y0 := blk_cell B1 0 (.int .i64 0) rfl
  have y1 := blk_cell B1 1 (.int .i64 0) rfl
  have y2 := blk_cell B1 2 (.int .i64 0) rfl
  have y3 := blk_cell B1 3 (.int .i64 0) rfl
  have yf := blk_free B1
  have hz3 : w.heap.size + 1 < w1.heap.size := by omega
  have HBW1 := Lib.hid hbw1
  clear B1 hbw1 hb1
  go_wp2
  refine bodyPost_ret (v := .tuple #[.agg #[.int .i64 0, .int .i64 0, .int .i64 0, .int .i64 0], .int .i64 1]) (by simp [results, Tryd.results28, go_sem, y0, y1, y2, y3, hz3]) rfl ⟨rfl, ?_⟩
  repeat (first | refine below_alloc ?_ _ | refine Below.drew ?_ | refine Below.setCell ?_ (by exact Nat.le_succ _) _)
  exact HBW1.out

set_option maxHeartbeats 2000000 in
theorem normal2_core (f a b c : Int) (hv : validB f a b c = true) (w : World) (m x y z : Int) (hm : (adrTo (wt f a b c) 20)[0]? = some ⟨m, x, y, z⟩) :
    Calls Tryd.prog 28 #[.agg #[.int .i64 f, .int .i64 a, .int .i64 b, .int .i64 c]] w fun e w' =>
      e = .returned (.tuple #[.agg #[.int .i64 m, .int .i64 x, .int .i64 y, .int .i64 z], .int .i64 0]) ∧ Below w.heap.size w w' := by
  have HM := Lib.hid hm
  clear hm
  go_enter Tryd.func28, Tryd.ntmps28
  go_wp2_with fail
  refine (addresses_core f a b c hv _ _ rfl (wt_bounds f a b c hv)).mono ?_
  rintro e w1 ⟨v, rfl, hown, hb1⟩
  have hs1 := hb1.size
  simp at hs1
  obtain ⟨q0, q1, q2, q3⟩ := cellsP_at _ _ _ HM.out
  have hn : 0 < (adrTo (wt f a b c) 20).length := (List.getElem?_eq_some_iff.1 HM.out).1
  have hcap := adrTo_length (wt f a b c) 20
  generalize (adrTo (wt f a b c) 20).length = n at hown hn hcap
  obtain ⟨g, cap, rfl, hg0, hg1⟩ := hown.form hn
  have r0 := own_cell hown 0 _ q0
  have r1 := own_cell hown 1 _ q1
  have r2 := own_cell hown 2 _ q2
  have r3 := own_cell hown 3 _ q3
  have B1 : w1.heap[w.heap.size + 1]? = some (.cells #[.int .i64 0, .int .i64 0, .int .i64 0, .int .i64 0] 23 (0, 0)) := blk_below hb1 (by simpa using blk_new (w.alloc _) _) (by simp)
  have hbw1 : Below w.heap.size w w1 := below_then (((Below.refl _ _).alloc (Nat.le_refl _) _).alloc (by simp) _) hb1 (by simp; omega)
  have y0 := blk_cell B1 0 (.int .i64 0) rfl
  have y1 := blk_cell B1 1 (.int .i64 0) rfl
  have y2 := blk_cell B1 2 (.int .i64 0) rfl
  have y3 := blk_cell B1 3 (.int .i64 0) rfl
  have yf := blk_free B1
  have hz3 : w.heap.size + 1 < w1.heap.size := by omega
  have hn2 : (0 : Int) < (n : Int) := by omega
  have HBW1 := Lib.hid hbw1
  have HH := Lib.hid hown
  clear B1 hbw1 hb1 hown q0 q1 q2 q3 HM
  go_wp2
  refine bodyPost_ret (v := .tuple #[.agg #[.int .i64 m, .int .i64 x, .int .i64 y, .int .i64 z], .int .i64 0]) (by simp [results, Tryd.results28, go_sem, y0, y1, y2, y3, hz3]) rfl ⟨rfl, ?_⟩
  repeat (first | refine below_alloc ?_ _ | refine Below.drew ?_ | refine Below.setCell ?_ (by exact Nat.le_succ _) _)
  exact HBW1.out

theorem normal2_yes (f a b c : Int) (hv : validB f a b c = true) (w : World) :
    Calls Tryd.prog 28 #[.agg #[.int .i64 f, .int .i64 a, .int .i64 b, .int .i64 c]] w fun e w' =>
      e = .returned (.tuple #[.agg #[.int .i64 (nf f a b c), .int .i64 (nc f a b c 0), .int .i64 (nc f a b c 1), .int .i64 (nc f a b c 2)], .int .i64 0]) ∧ Below w.heap.size w w' :=
  normal2_core f a b c hv w _ _ _ _ (adr_head f a b c hv)
end Go.Proofs.YtcoddcdiimpndaaDoor
