/-
  The walk of grid.Nodes.
-/
import Derived.Test.YtcoddcdiimpndaaGreatDoorM30
import Derived.Test.YtcoddcdiimpndaaGreatDoorM14
import Derived.Test.YtcoddcdiimpndaaGreatDoorM17
set_option linter.unusedVariables false
set_option linter.unusedSimpArgs false
namespace Go.Proofs.YtcoddcdiimpndaaGreatDoor
open Go.RowKit
set_option maxHeartbeats 1000000 in
theorem gnodes_own (m : Nat) (h1 : 1 ≤ m) (h8 : m ≤ 8) (w : World) (hT : TabOk w) :
    Calls Tryz.prog 13 #[.int .i64 m] w fun e w' => ∃ V, e = .returned (.tuple #[V, .int .i64 0]) ∧ w'.ownsRow w.heap.size 32 4 V (nodes m).length (cellsP (nodes m)) ∧ Below w.heap.size w w' := by
  have hfr := fun W => freq_any m W
  rw [show freqB m = true from by simp [freqB]; omega] at hfr
  have HP := Lib.hid (points_any m h1 h8 w hT)
  clear hT
  go_enter Tryz.func13, Tryz.ntmps13
  go_wp2_with fail
  refine (hfr _).mono ?_
  rintro e w1 ⟨rfl, rfl⟩
  go_wp2_with fail
  refine HP.out.mono ?_
  rintro e w2 ⟨V, rfl, hnet, hb⟩
  have c2 := blk_cell hnet.blk 2 V rfl
  have hlt := blk_lt hnet.blk
  have HN := Lib.hid hnet.row
  have HB := Lib.hid hb
  clear hnet hb
  go_wp2_with fail
  go_ret2
  exact ⟨V, rfl, HN.out, HB.out⟩
theorem gnodes_rd (m : Nat) (h1 : 1 ≤ m) (h8 : m ≤ 8) (w : World) (hT : TabOk w) :
    Calls Tryz.prog 13 #[.int .i64 m] w fun e w' => ∃ g cap, e = .returned (.tuple #[.slice (some ⟨g, 0, none⟩) (nodes m).length cap, .int .i64 0]) ∧ RdE w' g (fun i => (nodes m)[i]!) (nodes m).length ∧ w.heap.size ≤ g ∧ Below w.heap.size w w' := by
  refine (gnodes_own m h1 h8 w hT).mono ?_
  rintro e w1 ⟨V, he, hown, hb⟩
  obtain ⟨g, cap, rfl, hg, _⟩ := hown.form (nodes_len m h1 h8).1
  exact ⟨g, cap, he, RdE.of_own hown, hg, hb⟩
theorem RdE.grown {w w' : World} {g n : Nat} {E : Nat → Pl} {row : Option Nat} (H : RdE w g E n) (hg : w.grownBy w' row) (hne : some g ≠ row) : RdE w' g E n :=
  ⟨Nat.lt_of_lt_of_le H.lt hg.size, fun i hi => ⟨hg.cell (H.cells i hi).1 hne, hg.cell (H.cells i hi).2.1 hne, hg.cell (H.cells i hi).2.2.1 hne, hg.cell (H.cells i hi).2.2.2 hne⟩⟩
end Go.Proofs.YtcoddcdiimpndaaGreatDoor
