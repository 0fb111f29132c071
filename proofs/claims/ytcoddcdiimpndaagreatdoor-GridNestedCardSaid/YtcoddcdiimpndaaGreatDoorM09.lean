/-
  The walks of mesh: the corners of a small triangle.
-/
import Derived.Test.YtcoddcdiimpndaaGreatDoorM08
import Derived.Deep.RegionHeld3
import Derived.Deep.DrawnRows
set_option linter.unusedVariables false
set_option linter.unusedSimpArgs false
namespace Go.Proofs.YtcoddcdiimpndaaGreatDoor
open Go.RowKit
attribute [local go_sem ↓] Go.wp_at_zero Go.wp_at_succ
set_option maxRecDepth 100000 in
set_option maxHeartbeats 4000000 in
theorem upward_any (f a b c : Int) (h : Nat) (hh : h ≤ 840) (ha : 0 ≤ a ∧ a ≤ 840) (hb : 0 ≤ b ∧ b ≤ 840) (hc : 0 ≤ c ∧ c ≤ 840) (g : Nat) (w : World) (hg : g < w.heap.size) (c1 : w.cell? ⟨g, 1, none⟩ = some (.int .i64 h)) :
    Calls Tryz.prog 101 #[.pointer (some ⟨g, 0, none⟩), .agg #[.int .i64 f, .int .i64 a, .int .i64 b, .int .i64 c]] w fun e w' =>
      e = .returned (.agg #[.int .i64 f, .int .i64 (a + h), .int .i64 b, .int .i64 c, .int .i64 f, .int .i64 a, .int .i64 (b + h), .int .i64 c, .int .i64 f, .int .i64 a, .int .i64 b, .int .i64 (c + h)]) ∧ Below w.heap.size w w' := by
  obtain ⟨ha0, ha1⟩ := ha
  obtain ⟨hb0, hb1⟩ := hb
  obtain ⟨hc0, hc1⟩ := hc
  have hg1 : g < w.heap.size + 1 := by omega
  have hg2 : g < w.heap.size + 1 + 1 := by omega
  have hg3 : g < w.heap.size + 1 + 1 + 1 := by omega
  have hg4 : g < w.heap.size + 1 + 1 + 1 + 1 := by omega
  have hg5 : g < w.heap.size + 1 + 1 + 1 + 1 + 1 := by omega
  have hg6 : g < w.heap.size + 1 + 1 + 1 + 1 + 1 + 1 := by omega
  have hg7 : g < w.heap.size + 1 + 1 + 1 + 1 + 1 + 1 + 1 := by omega
  have hg8 : g < w.heap.size + 1 + 1 + 1 + 1 + 1 + 1 + 1 + 1 := by omega
  go_enter Tryz.func101, Tryz.ntmps101
  go_wp2
  go_region_held3 (fun w' => w'.cell? ⟨w.heap.size, 0, none⟩ = some (.int .i64 f) ∧ w'.cell? ⟨w.heap.size, 1, none⟩ = some (.int .i64 a) ∧ w'.cell? ⟨w.heap.size, 2, none⟩ = some (.int .i64 b) ∧ w'.cell? ⟨w.heap.size, 3, none⟩ = some (.int .i64 c) ∧ w'.cell? ⟨g, 1, none⟩ = some (.int .i64 h)) (first | (refine ⟨?_, ?_, ?_, ?_, ?_⟩ <;> go_simp))
    (first | (go_at_call 99; refine (moved_any _ _ _ _ _ _ _ (by omega) (by omega) (by omega) _).mono ?_; rintro e w' ⟨rfl, rfl⟩; simp only [Int.add_zero]))
  all_goals go_wp2
  all_goals
    refine bodyPost_ret (v := .agg #[.int .i64 f, .int .i64 (a + h), .int .i64 b, .int .i64 c, .int .i64 f, .int .i64 a, .int .i64 (b + h), .int .i64 c, .int .i64 f, .int .i64 a, .int .i64 b, .int .i64 (c + h)]) (by simp [results, Tryz.results101, go_sem]) rfl ⟨rfl, ?_⟩
    repeat (first | refine below_alloc ?_ _ | refine Below.drew ?_)
    exact Below.refl _ _

set_option maxRecDepth 100000 in
set_option maxHeartbeats 4000000 in
theorem downward_any (f a b c : Int) (h : Nat) (hh : h ≤ 840) (ha : 0 ≤ a ∧ a ≤ 840) (hb : 0 ≤ b ∧ b ≤ 840) (hc : 0 ≤ c ∧ c ≤ 840) (g : Nat) (w : World) (hg : g < w.heap.size) (c1 : w.cell? ⟨g, 1, none⟩ = some (.int .i64 h)) :
    Calls Tryz.prog 102 #[.pointer (some ⟨g, 0, none⟩), .agg #[.int .i64 f, .int .i64 a, .int .i64 b, .int .i64 c]] w fun e w' =>
      e = .returned (.agg #[.int .i64 f, .int .i64 a, .int .i64 (b + h), .int .i64 (c + h), .int .i64 f, .int .i64 (a + h), .int .i64 b, .int .i64 (c + h), .int .i64 f, .int .i64 (a + h), .int .i64 (b + h), .int .i64 c]) ∧ Below w.heap.size w w' := by
  obtain ⟨ha0, ha1⟩ := ha
  obtain ⟨hb0, hb1⟩ := hb
  obtain ⟨hc0, hc1⟩ := hc
  have hg1 : g < w.heap.size + 1 := by omega
  have hg2 : g < w.heap.size + 1 + 1 := by omega
  have hg3 : g < w.heap.size + 1 + 1 + 1 := by omega
  have hg4 : g < w.heap.size + 1 + 1 + 1 + 1 := by omega
  have hg5 : g < w.heap.size + 1 + 1 + 1 + 1 + 1 := by omega
  have hg6 : g < w.heap.size + 1 + 1 + 1 + 1 + 1 + 1 := by omega
  have hg7 : g < w.heap.size + 1 + 1 + 1 + 1 + 1 + 1 + 1 := by omega
  have hg8 : g < w.heap.size + 1 + 1 + 1 + 1 + 1 + 1 + 1 + 1 := by omega
  go_enter Tryz.func102, Tryz.ntmps102
  go_wp2
  go_region_held3 (fun w' => w'.cell? ⟨w.heap.size, 0, none⟩ = some (.int .i64 f) ∧ w'.cell? ⟨w.heap.size, 1, none⟩ = some (.int .i64 a) ∧ w'.cell? ⟨w.heap.size, 2, none⟩ = some (.int .i64 b) ∧ w'.cell? ⟨w.heap.size, 3, none⟩ = some (.int .i64 c) ∧ w'.cell? ⟨g, 1, none⟩ = some (.int .i64 h)) (first | (refine ⟨?_, ?_, ?_, ?_, ?_⟩ <;> go_simp))
    (first | (go_at_call 99; refine (moved_any _ _ _ _ _ _ _ (by omega) (by omega) (by omega) _).mono ?_; rintro e w' ⟨rfl, rfl⟩; simp only [Int.add_zero]))
  all_goals go_wp2
  all_goals
    refine bodyPost_ret (v := .agg #[.int .i64 f, .int .i64 a, .int .i64 (b + h), .int .i64 (c + h), .int .i64 f, .int .i64 (a + h), .int .i64 b, .int .i64 (c + h), .int .i64 f, .int .i64 (a + h), .int .i64 (b + h), .int .i64 c]) (by simp [results, Tryz.results102, go_sem]) rfl ⟨rfl, ?_⟩
    repeat (first | refine below_alloc ?_ _ | refine Below.drew ?_)
    exact Below.refl _ _

end Go.Proofs.YtcoddcdiimpndaaGreatDoor
