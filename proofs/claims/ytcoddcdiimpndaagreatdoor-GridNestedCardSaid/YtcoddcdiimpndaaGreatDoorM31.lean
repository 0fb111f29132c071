/-
  mesh.Build at each frequency; the walks of grid.Edges and grid.Cells.
-/
import Derived.Test.YtcoddcdiimpndaaGreatDoorM27
import Derived.Test.YtcoddcdiimpndaaGreatDoorM30
import Derived.Test.YtcoddcdiimpndaaGreatDoorM17
set_option linter.unusedVariables false
set_option linter.unusedSimpArgs false
namespace Go.Proofs.YtcoddcdiimpndaaGreatDoor
open Go.RowKit
theorem nh (n : Nat) (h1 : 1 ≤ n) (h8 : n ≤ 8) : n * (840 / n) = 840 := by
  have : n = 1 ∨ n = 2 ∨ n = 3 ∨ n = 4 ∨ n = 5 ∨ n = 6 ∨ n = 7 ∨ n = 8 := by omega
  rcases this with rfl | rfl | rfl | rfl | rfl | rfl | rfl | rfl <;> decide
theorem tris_pos (l : List Pl) (h n : Nat) (h1 : 1 ≤ n) : 0 < (trisTo l h n 20 0 0).length := by
  refine List.length_pos_of_mem (a := upT l h ((0 : Nat) : Int) (((0 : Nat) : Int) * h) (((0 : Nat) : Int) * h) (((n : Int) - 1 - (0 : Nat) - (0 : Nat)) * h)) ?_
  unfold trisTo tAll tCol tRow
  simp only [List.mem_append, List.mem_flatMap, List.mem_range]
  exact .inl (.inl ⟨0, by omega, 0, by omega, 0, by omega, by unfold cellsOfP; simp⟩)
theorem build_any (n : Nat) (h1 : 1 ≤ n) (h8 : n ≤ 8) (w : World) (hT : TabOk w) :
    Calls Tryz.prog 52 #[.int .i64 n] w fun e w' => e = .returned (.pointer (some ⟨w.heap.size + 1, 0, none⟩)) ∧ Built w w' (840 / n) n (nodes n) := by
  have hc := nodes_count n h1 h8
  have h64 : n * n ≤ 8 * 8 := Nat.mul_le_mul h8 h8
  exact build_core n (840 / n) h1 h8 (nh n h1 h8) (nodes n) (fine_nodes n h1 h8) (by omega) (nodes_len n h1 h8).1 (tris_pos _ _ _ h1) w hT (points_any n h1 h8 w hT)
set_option maxHeartbeats 1000000 in
theorem gedges_own (m : Nat) (h1 : 1 ≤ m) (h8 : m ≤ 8) (w : World) (hT : TabOk w) :
    Calls Tryz.prog 17 #[.int .i64 m] w fun e w' => ∃ V, e = .returned (.tuple #[V, .int .i64 0]) ∧ w'.ownsRow w.heap.size 39 2 V (edL (nodes m) (840 / m) m).length (cellsE (edL (nodes m) (840 / m) m)) ∧ Below w.heap.size w w' := by
  have hfr := fun W => freq_any m W
  rw [show freqB m = true from by simp [freqB]; omega] at hfr
  have HP := Lib.hid (build_any m h1 h8 w hT)
  clear hT
  go_enter Tryz.func17, Tryz.ntmps17
  go_wp2_with fail
  refine (hfr _).mono ?_
  rintro e w1 ⟨rfl, rfl⟩
  go_wp2_with fail
  refine HP.out.mono ?_
  rintro e w2 ⟨rfl, hblt⟩
  unfold Built at hblt
  obtain ⟨V, C, Ev, gx, Vx, hnet, hr2, hb⟩ := hblt
  have c5 := blk_cell hnet.blk 5 Ev rfl
  have hlt := blk_lt hnet.blk
  have HN := Lib.hid hnet.edg
  have HB := Lib.hid hb
  clear hnet hb hr2
  go_wp2_with fail
  go_ret2
  exact ⟨Ev, rfl, HN.out, HB.out⟩
set_option maxHeartbeats 1000000 in
theorem gcells_own (m : Nat) (h1 : 1 ≤ m) (h8 : m ≤ 8) (w : World) (hT : TabOk w) :
    Calls Tryz.prog 15 #[.int .i64 m] w fun e w' => ∃ V, e = .returned (.tuple #[V, .int .i64 0]) ∧ w'.ownsRow w.heap.size 34 3 V (triL (nodes m) (840 / m) m).length (cellsT (triL (nodes m) (840 / m) m)) ∧ Below w.heap.size w w' := by
  have hfr := fun W => freq_any m W
  rw [show freqB m = true from by simp [freqB]; omega] at hfr
  have HP := Lib.hid (build_any m h1 h8 w hT)
  clear hT
  go_enter Tryz.func15, Tryz.ntmps15
  go_wp2_with fail
  refine (hfr _).mono ?_
  rintro e w1 ⟨rfl, rfl⟩
  go_wp2_with fail
  refine HP.out.mono ?_
  rintro e w2 ⟨rfl, hblt⟩
  unfold Built at hblt
  obtain ⟨V, C, Ev, gx, Vx, hnet, hr2, hb⟩ := hblt
  have c5 := blk_cell hnet.blk 4 C rfl
  have hlt := blk_lt hnet.blk
  have HN := Lib.hid hnet.tri
  have HB := Lib.hid hb
  clear hnet hb hr2
  go_wp2_with fail
  go_ret2
  exact ⟨C, rfl, HN.out, HB.out⟩
end Go.Proofs.YtcoddcdiimpndaaGreatDoor
